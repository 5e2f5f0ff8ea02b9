/- Only some blocks have turned. -/
import Derived.Test.YtnlbdmciaodohaaWords
import Derived.Laws.IdiomCopy
import Derived.Laws.Rows
namespace Oc
set_option linter.unusedVariables false
open Go Go.RowKit
/-- Of the blocks that were there only those of the list l have turned. -/
structure Turns (l : List Nat) (w w' : World) : Prop where
  os : w'.os = w.os
  tape : w'.tape = w.tape
  output : w'.output = w.output
  size : w.heap.size ≤ w'.heap.size
  block : ∀ k, k < w.heap.size → k ∉ l → w'.heap[k]? = w.heap[k]?
theorem Turns.refl (l : List Nat) (w : World) : Turns l w w := ⟨rfl, rfl, rfl, Nat.le_refl _, fun _ _ _ => rfl⟩
theorem Turns.trans {l : List Nat} {a b c : World} (h : Turns l a b) (k : Turns l b c) : Turns l a c :=
  ⟨k.os.trans h.os, k.tape.trans h.tape, k.output.trans h.output, Nat.le_trans h.size k.size, fun i hi hn => (k.block i (Nat.lt_of_lt_of_le hi h.size) hn).trans (h.block i hi hn)⟩
/-- .. behind a step that turns, of what was there, those of l alone, and whatever is new. -/
theorem Turns.trans' {l l' : List Nat} {a b c : World} (h : Turns l a b) (k : Turns l' b c) (hl : ∀ r ∈ l', r ∈ l ∨ a.heap.size ≤ r) : Turns l a c :=
  ⟨k.os.trans h.os, k.tape.trans h.tape, k.output.trans h.output, Nat.le_trans h.size k.size, fun i hi hn => (k.block i (Nat.lt_of_lt_of_le hi h.size) (fun hc => by
    rcases hl i hc with h1 | h1
    · exact hn h1
    · omega)).trans (h.block i hi hn)⟩
theorem Turns.mono {l l' : List Nat} {a b : World} (h : Turns l a b) (hl : ∀ r ∈ l, r ∈ l') : Turns l' a b := ⟨h.os, h.tape, h.output, h.size, fun k hk hn => h.block k hk fun hc => hn (hl k hc)⟩
theorem Turns.of_none {l : List Nat} {a b : World} (h : a.grownBy b none) : Turns l a b := ⟨h.os, h.tape, h.output, h.size, fun k hk _ => h.block k hk (by simp)⟩
theorem Turns.of_some {l : List Nat} {a b : World} {r : Nat} (h : a.grownBy b (some r)) (hr : r ∈ l) : Turns l a b := ⟨h.os, h.tape, h.output, h.size, fun k hk hn => h.block k hk (fun e => by cases e; exact hn hr)⟩
theorem Turns.of_below {l : List Nat} {a b : World} (h : Below a.heap.size a b) : Turns l a b := ⟨h.os, h.tape, h.output, h.size, fun k hk _ => h.block k hk⟩
theorem Turns.below {l : List Nat} {n₀ : Nat} {w a b : World} (h : Below n₀ w a) (ht : Turns l a b) (hn : n₀ ≤ a.heap.size) (hl : ∀ r ∈ l, n₀ ≤ r) : Below n₀ w b :=
  ⟨ht.os.trans h.os, ht.tape.trans h.tape, ht.output.trans h.output, Nat.le_trans h.size ht.size, fun k hk => (ht.block k (by omega) (fun hc => by have := hl k hc; omega)).trans (h.block k hk)⟩
theorem Turns.setCell {l : List Nat} {a w : World} (h : Turns l a w) {p : Addr} (hp : p.block ∈ l ∨ a.heap.size ≤ p.block) (u : Value) : Turns l a (w.setCell p u) :=
  ⟨h.os, h.tape, h.output, by simpa [World.setCell] using h.size, fun i hi hn => (Below.heap_setCell w p u i (by
    rintro rfl
    rcases hp with hp | hp
    · exact hn hp
    · omega)).trans (h.block i hi hn)⟩
theorem Turns.alloc {l : List Nat} {a w : World} (h : Turns l a w) (o : Obj) : Turns l a (w.alloc o) :=
  ⟨h.os, h.tape, h.output, Nat.le_trans h.size (by simp), fun i hi hn => (Below.heap_alloc w o i (Nat.lt_of_lt_of_le hi h.size)).trans (h.block i hi hn)⟩
theorem Turns.drew {l : List Nat} {a w : World} (h : Turns l a w) : Turns l a w.drew := ⟨h.os, h.tape, h.output, h.size, h.block⟩
theorem Turns.drewN {l : List Nat} {a w : World} (h : Turns l a w) (n : Nat) : Turns l a (w.drewN n) := ⟨h.os, h.tape, h.output, h.size, h.block⟩
theorem Turns.kept {l : List Nat} {a b : World} (h : Turns l a b) {k : Nat} {o : Obj} (ho : a.heap[k]? = some o) (hk : k ∉ l) : b.heap[k]? = some o := (h.block k (Array.getElem?_eq_some_iff.1 ho).1 hk).trans ho
theorem Turns.grownNone {a b : World} (h : Turns [] a b) : a.grownBy b none := ⟨h.os, h.tape, h.output, h.size, fun k hk _ => h.block k hk (by simp)⟩
/-- Cells laid over a row from o on. -/
def over (C : Array Value) (o : Nat) : List Value → Array Value
  | [] => C
  | v :: r => over (C.setIfInBounds o v) (o + 1) r
theorem over_size : ∀ (vs : List Value) (C : Array Value) (o : Nat), (over C o vs).size = C.size
  | [], _, _ => rfl
  | v :: r, C, o => by unfold over; rw [over_size r]; simp
theorem over_get : ∀ (vs : List Value) (C : Array Value) (o k : Nat), o + vs.length ≤ C.size → (over C o vs)[k]? = if o ≤ k ∧ k < o + vs.length then vs[k - o]? else C[k]?
  | [], C, o, k, _ => by unfold over; simp; intro h1 h2; omega
  | v :: r, C, o, k, h => by
    simp only [List.length_cons] at h
    unfold over
    rw [over_get r _ (o + 1) k (by simp; omega)]
    by_cases e : k = o
    · subst e
      rw [if_neg (by omega), if_pos (by simp)]
      simp [show k < C.size by omega]
    · by_cases h1 : o + 1 ≤ k ∧ k < o + 1 + r.length
      · rw [if_pos h1, if_pos (by simp; omega)]
        rw [show k - o = (k - (o + 1)) + 1 by omega]; simp
      · rw [if_neg h1, if_neg (by simp; omega), Array.getElem?_setIfInBounds_ne (by omega)]
theorem over_all (C : Array Value) (vs : List Value) (h : vs.length = C.size) : over C 0 vs = vs.toArray := by
  apply Array.ext'
  apply List.ext_getElem?
  intro k
  have := over_get vs C 0 k (by omega)
  rw [← Array.getElem?_toList] at this
  rw [this]
  by_cases hk : k < vs.length
  · rw [if_pos (by omega)]; simp
  · rw [if_neg (by omega)]
    rw [Array.getElem?_eq_none (by omega)]
    simp; omega
theorem setCells_block : ∀ (vs : List Value) (W : World) (b o : Nat) (C : Array Value) (T : TypeId), W.heap[b]? = some (.cells C T (0, 0)) → (W.setCells b o vs).heap[b]? = some (.cells (over C o vs) T (0, 0))
  | [], W, b, o, C, T, h => h
  | v :: r, W, b, o, C, T, h => setCells_block r (W.setCell ⟨b, o, none⟩ v) b (o + 1) (C.setIfInBounds o v) T (heap_setCell_same W b o C T v h)
theorem Turns.setCells {l : List Nat} {a : World} {b : Nat} (hb : b ∈ l ∨ a.heap.size ≤ b) : ∀ (vs : List Value) (w : World) (o : Nat), Turns l a w → Turns l a (w.setCells b o vs)
  | [], w, o, h => h
  | v :: r, w, o, h => Turns.setCells hb r _ (o + 1) (h.setCell (p := ⟨b, o, none⟩) hb v)
theorem setCells_size : ∀ (vs : List Value) (w : World) (b o : Nat), (w.setCells b o vs).heap.size = w.heap.size
  | [], _, _, _ => rfl
  | v :: r, w, b, o => by unfold World.setCells; rw [setCells_size r]; simp [World.setCell]
/-- A row of bytes. -/
def bytesV (vs : List Int) : Array Value := (vs.map (Value.int .u8)).toArray
theorem bytesV_get {vs : List Int} {k : Nat} {v : Int} (h : vs[k]? = some v) : (bytesV vs)[k]? = some (.int .u8 v) := by simp [bytesV, h]
end Oc
