/- A loop over an iterator that keeps a block of cells of its own and turns it between two rounds: its contract, and the law for the caller.
   The border is drawn by the block's number: from B = the heap's size where the loop begins stand the block for deferred calls (B), the loop's record (B + 1) and the iterator's own block (B + 2). The caller's invariant minds none of the three; a round keeps all three. -/
import Derived.RangeFuncNested
import Derived.RangeFuncWrites
import Derived.RangeFuncBox
import Derived.RangeFuncLeaves
import Derived.RangeFuncCalls
import Derived.Test.YtnlbdmciaodohaaWords
namespace Oc
set_option linter.unusedVariables false
open Go Go.RowKit
/-- The invariant minds no turn of the blocks from b to c. -/
def Minds {β : Type} (b c : Nat) (I : β → World → Prop) : Prop :=
  ∀ s W W' row, I s W → W.grownBy W' row → (∀ r, row = some r → b ≤ r ∧ r ≤ c) → I s W'
/-- The blocks from b to c lie as they lay. -/
structure Lie (b c : Nat) (W W' : World) : Prop where
  size : W.heap.size ≤ W'.heap.size
  same : ∀ k, b ≤ k → k ≤ c → k < W.heap.size → W'.heap[k]? = W.heap[k]?
theorem Lie.refl (b c : Nat) (W : World) : Lie b c W W := ⟨Nat.le_refl _, fun _ _ _ _ => rfl⟩
theorem Lie.trans {b c : Nat} {X Y Z : World} (h : Lie b c X Y) (k : Lie b c Y Z) : Lie b c X Z :=
  ⟨Nat.le_trans h.size k.size, fun i h1 h2 h3 => (k.same i h1 h2 (Nat.lt_of_lt_of_le h3 h.size)).trans (h.same i h1 h2 h3)⟩
theorem Lie.grown {b c : Nat} {W W' : World} {row : Option Nat} (h : W.grownBy W' row) (hr : ∀ r, row = some r → r < b ∨ c < r) : Lie b c W W' :=
  ⟨h.size, fun k h1 h2 h3 => h.block k h3 fun e => by have := hr k e.symm; omega⟩
theorem Minds.put {β : Type} {b c : Nat} {I : β → World → Prop} (h : Minds b c I) {s : β} {W : World} (l : Nat) (o : Obj) (hs : I s W) (h1 : b ≤ l) (h2 : l ≤ c) : I s (W.putObj l o) :=
  h s W _ (some l) hs (grownBy_putObj' W l o) fun r e => by cases e; exact ⟨h1, h2⟩
theorem Minds.grown {β : Type} {b c : Nat} {I : β → World → Prop} (h : Minds b c I) {s : β} {W W' : World} (hs : I s W) (hg : W.grownBy W' none) : I s W' := h s W W' none hs hg fun r e => by cases e
theorem Minds.and {β : Type} {b c : Nat} {I J : β → World → Prop} (h : Minds b c I) (k : Minds b c J) : Minds b c (fun s W => I s W ∧ J s W) := fun s W W' row hs hg hr => ⟨h s W W' row hs.1 hg hr, k s W W' row hs.2 hg hr⟩
theorem Minds.of_below {β : Type} {b c n₀ : Nat} {w : World} (hn : n₀ ≤ b) : Minds b c (fun (_ : β) W => Below n₀ w W ∧ n₀ ≤ W.heap.size) := fun s W W' row hs hg hr =>
  ⟨hs.1.grown hg hs.2 (fun j e => by have := hr j e; omega), Nat.le_trans hs.2 hg.size⟩
theorem Minds.none {β : Type} {b c : Nat} : Minds b c (fun (_ : β) (_ : World) => False) := fun _ _ _ _ h _ _ => h
theorem Minds.pure {β : Type} {b c : Nat} (p : β → Prop) : Minds b c (fun s (_ : World) => p s) := fun _ _ _ _ h _ _ => h
theorem Minds.boxed {β : Type} {b c k : Nat} {t : TypeId} (h : k < b ∨ c < k) (f : β → Value) : Minds b c (fun s W => Boxed W k t (f s)) := fun s W W' row hs hg hr => hs.kept hg (fun e => by have := hr k e.symm; omega)
theorem Minds.cells {β : Type} {b c k : Nat} {t : TypeId} (h : k < b ∨ c < k) (f : β → Array Value) : Minds b c (fun s W => W.heap[k]? = some (.cells (f s) t (0, 0))) := fun s W W' row hs hg hr =>
  (hg.block k (Array.getElem?_eq_some_iff.1 hs).1 (fun e => by have := hr k e.symm; omega)).trans hs
theorem owns_far {W : World} {base : Nat} {e : TypeId} {size : Nat} {v : Value} {k : Nat} {xs : List Value} (h : W.ownsRow base e size v k xs) : ∀ r, v.ownBlock = some r → base ≤ r ∧ r < W.heap.size := by
  intro r e'
  rcases h.2 with ⟨rfl, _⟩ | ⟨g, cap, cur, rfl, hb, hg, _⟩
  · simp [Value.ownBlock] at e'
  · obtain rfl : g = r := by simpa [Value.ownBlock] using e'
    exact ⟨hb, (Array.getElem?_eq_some_iff.1 hg).1⟩
theorem owns_kept {W W' : World} {base : Nat} {e : TypeId} {size : Nat} {v : Value} {k : Nat} {xs : List Value} {row : Option Nat} (h : W.ownsRow base e size v k xs) (hg : W.grownBy W' row) (hr : ∀ r, row = some r → v.ownBlock ≠ some r) : W'.ownsRow base e size v k xs := by
  refine h.kept hg ?_
  rcases h.2 with ⟨rfl, _⟩ | ⟨g, cap, cur, rfl, _⟩
  · exact .inl rfl
  · right
    intro e'
    simp only [Value.ownBlock] at e' hr
    exact hr g e'.symm rfl
theorem owns_base {W : World} {base base' : Nat} {e : TypeId} {size : Nat} {v : Value} {k : Nat} {xs : List Value} (h : W.ownsRow base e size v k xs) (hb : base' ≤ base) : W.ownsRow base' e size v k xs := by
  refine ⟨h.1, ?_⟩
  rcases h.2 with h' | ⟨g, cap, cur, h1, h2, h3⟩
  · exact .inl h'
  · exact .inr ⟨g, cap, cur, h1, Nat.le_trans hb h2, h3⟩
theorem Minds.row {β : Type} {b c B base : Nat} {t e : TypeId} {size : Nat} (hB : B < b ∨ c < B) (hb : c < base) (k : β → Nat) (f : β → List Value) (G : β → Value → Prop) : Minds b c (fun s W => ∃ v, Boxed W B t v ∧ W.ownsRow base e size v (k s) (f s) ∧ G s v) := by
  rintro s W W' row ⟨v, h1, h2, h3⟩ hg hr
  refine ⟨v, h1.kept hg (fun e => by have := hr B e.symm; omega), owns_kept h2 hg fun r e' e2 => ?_, h3⟩
  have := (owns_far h2 r e2).1
  have := hr r e'
  omega
theorem Minds.only {β : Type} {b c : Nat} {a : World} {row : Option Nat} (h : a.heap.size ≤ b) : Minds b c (fun (_ : β) W => a.grownBy W row) := fun s W W' r hs hg hr =>
  ⟨hg.os.trans hs.os, hg.tape.trans hs.tape, hg.output.trans hs.output, Nat.le_trans hs.size hg.size, fun k hk hne => (hg.block k (Nat.lt_of_lt_of_le hk hs.size) (fun e => by have := hr k e.symm; omega)).trans (hs.block k hk hne)⟩
/-- The iterator's contract: its own block is the first that it lays. -/
def SeqBox {α : Type} (F : Fence) (n : Nat) (P : Program) (g : Nat) (lb : Array Value) (encs : α → Array Value) (Kp : World → World → Prop) (S Sp : List α → Prop) (w : World) : Prop :=
  ∀ (l : Nat) (J Jx : List α → World → Prop) (W : World), Below w.heap.size w W → Minds W.heap.size W.heap.size J → Minds W.heap.size W.heap.size Jx →
    (∀ pre x W1, J pre W1 → W.heap.size < W1.heap.size → Sp (pre ++ [x]) → YieldAt F (n - 1) P l (encs x) W1 fun e W' =>
      (e = .returned (.bool true) ∧ J (pre ++ [x]) W' ∧ W'.heap[W.heap.size]? = W1.heap[W.heap.size]? ∧ W1.heap.size ≤ W'.heap.size ∧ Kp W1 W') ∨ (e = .returned (.bool false) ∧ Jx (pre ++ [x]) W')) →
    J [] W →
    CallsIn F n P g (#[.func (.yield l) #[] #[]] ++ lb) W fun e W' => (∃ v, e = .returned v) ∧ ((∃ xs, S xs ∧ J xs W') ∨ (∃ pre, Sp pre ∧ Jx pre W'))
/-- How a round may be left. -/
def roundBox {α : Type} (B : Nat) (Kp : World → World → Prop) (I : List α → World → Prop) (Ix : Code → List α → World → Prop) (xs : List α) (W : World) : Exit → Act → World → Prop
  | .normal, _, W' => Lie B (B + 2) W W' ∧ Kp W W' ∧ I xs W'
  | .ret, _, W' => Lie B (B + 2) W W' ∧ Ix .ret xs W'
  | .exit id, _, W' => Lie B (B + 2) W W' ∧ Ix (.exit id) xs W'
  | .goto t, _, W' => Lie B (B + 2) W W' ∧ Ix (.goto t) xs W'
  | .panic _, _, _ => False
  | .outgrown, _, _ => False
variable {F : Fence} {n : Nat} {P : Program}
theorem wpIn_seqBox {α : Type} {g : Operand} {ps : Array Tmp} {assign body : Code} {Q : Exit → Act → World → Prop} {a : Act} {w : World}
    (hro : F.round = none) (h1 : 1 ≤ n) {gf : Nat} {lb : Array Value} (hg : a.eval g = .func (.func gf) #[] lb) (hFg : F.fn gf) (eg : ∀ args w, (callFunc gf args).run P w = .ok (.enter gf args) w)
    {encs : α → Array Value} {Kp : World → World → Prop} {S Sp : List α → Prop} {w0 : World} (hseq : SeqBox F (n - 1) P gf lb encs Kp S Sp w0)
    (hKt : ∀ {A B C : World}, Kp A B → Kp B C → Kp A C) (hKb : ∀ (W : World) (l : Nat) (o : Obj), w.heap.size ≤ l → l < W.heap.size → Kp W (W.putObj l o)) (hb0 : Below w0.heap.size w0 w) (hps : ∀ x, (encs x).size = ps.size)
    (I : List α → World → Prop) (Ix : Code → List α → World → Prop) (hI : Minds w.heap.size (w.heap.size + 2) I) (hIx : ∀ c, Minds w.heap.size (w.heap.size + 2) (Ix c)) (h0 : I [] w)
    (Ax : α → Act → World → Prop) (hAx : ∀ x a', Minds w.heap.size (w.heap.size + 2) (fun (_ : Unit) W => Ax x a' W))
    (hassign : ∀ (l : Nat) (pre : List α) (x : α) (W : World) (K : Act → World → Prop), I pre W → w.heap.size + 2 < W.heap.size →
      (∀ a' W', Lie w.heap.size (w.heap.size + 2) W W' → Kp W W' → I pre W' → Ax x a' W' → K a' W') →
      assign.wpIn (F.inRound l) (n - 1 - 1) P (Exit.then K (fun _ _ _ => False)) { tmps := (ps.zip (encs x)).foldl (fun t (p, v) => t.setIfInBounds p v) a.tmps, defers := [] } W)
    (hbody : ∀ (l : Nat) (pre : List α) (x : α) (a' : Act) (W : World), I pre W → Ax x a' W → w.heap.size + 2 < W.heap.size → Sp (pre ++ [x]) →
      body.wpIn (F.inRound l) (n - 1 - 1) P (roundBox w.heap.size Kp I Ix (pre ++ [x]) W) a' W)
    (hdone : ∀ (xs : List α) (W : World), S xs → I xs W → W.heap[w.heap.size]? = some (.deferred (some [])) → Q .normal { a with defers := { target := .collected w.heap.size, args := #[] } :: a.defers } W)
    (hstop : ∀ (c : Code) (pre : List α) (W : World), Sp pre → Ix c pre W → W.heap[w.heap.size]? = some (.deferred (some [])) → c.wpIn F n P Q { a with defers := { target := .collected w.heap.size, args := #[] } :: a.defers } W) :
    (Code.rangeFunc g ps assign body).wpIn F n P Q a w := by
  refine wpIn_rangeFunc fun fn hfn => ?_
  rw [hro]
  generalize hB : w.heap.size = B at *
  -- the record in its three states
  let R : LoopState → Option Code → Loop := fun st pe => { state := st, pending := pe, fn, tmps := a.tmps, params := ps, assign, body, defers := B }
  have hRs : ∀ st pe, (R st pe).state = st := fun _ _ => rfl
  -- what holds of the two blocks that the loop itself lays
  let Bk : Loop → World → Prop := fun r W => W.heap[B + 1]? = some (.loop r) ∧ W.heap[B]? = some (.deferred (some []))
  have hBkm : ∀ r, Minds (β := Unit) (B + 2) (B + 2) (fun _ W => Bk r W) := fun r _ W W' row hs hgr hrow =>
    ⟨(hgr.block _ (Array.getElem?_eq_some_iff.1 hs.1).1 fun e => by have := hrow _ e.symm; omega).trans hs.1, (hgr.block _ (Array.getElem?_eq_some_iff.1 hs.2).1 fun e => by have := hrow _ e.symm; omega).trans hs.2⟩
  have hBkl : ∀ {r W W'}, Lie B (B + 2) W W' → Bk r W → Bk r W' := fun hl hs =>
    ⟨(hl.same _ (by omega) (by omega) (Array.getElem?_eq_some_iff.1 hs.1).1).trans hs.1, (hl.same _ (by omega) (by omega) (Array.getElem?_eq_some_iff.1 hs.2).1).trans hs.2⟩
  have hBkp : ∀ {r W} (r'), Bk r W → Bk r' (W.putObj (B + 1) (.loop r')) := fun r' hs =>
    ⟨World.putObj_heap_same (Array.getElem?_eq_some_iff.1 hs.1).1, (World.putObj_heap_other (by omega)).trans hs.2⟩
  obtain ⟨W1, hW1⟩ : ∃ W1, (w.alloc (.deferred (some []))).alloc (.loop (R .ready none)) = W1 := ⟨_, rfl⟩
  have hg1 : w.grownBy W1 none := by rw [← hW1]; exact (World.grownBy_alloc _ _ _).trans (World.grownBy_alloc _ _ _)
  have hz1 : W1.heap.size = B + 2 := by rw [← hW1]; simp [hB]
  have hk1 : Bk (R .ready none) W1 := by
    rw [← hW1]
    constructor
    · have := World.alloc_heap_new (w.alloc (.deferred (some []))) (.loop (R .ready none)); rwa [World.size_alloc, hB] at this
    · have := World.alloc_heap_new w (.deferred (some [])); rw [hB] at this; exact (Below.heap_alloc _ _ _ (by simp [hB])).trans this
  have hm : ∀ {β : Type} {J : β → World → Prop}, Minds B (B + 2) J → Minds W1.heap.size W1.heap.size J := fun h s W W' row hs hgr hrow => h s W W' row hs hgr fun r e => by have := hrow r e; omega
  have hm1 : ∀ r, Minds (β := Unit) W1.heap.size W1.heap.size (fun _ W => Bk r W) := fun r => by rw [hz1]; exact hBkm r
  have hent := run_enterLoop_outer (P := P) (w := w) fn a.tmps ps assign body
  rw [hB] at hent
  refine ⟨B + 1, [{ target := .collected B, args := #[] }], W1, { target := .fn (.func gf) lb, args := #[.func (.yield (B + 1)) #[] #[]] }, W1, gf,
    #[.func (.yield (B + 1)) #[] #[]] ++ lb, W1, by rw [← hW1]; exact hent, by simp only [resolve, hg]; simp [go_sem], fun f' hf' => by simp [Target.leads] at hf'; subst hf'; exact hFg, by simp [invoke, go_sem, eg], fun _ => h1, ?_⟩
  refine (hseq (B + 1) (fun pre W => I pre W ∧ Bk (R .ready none) W) (fun pre W => ∃ c, Ix c pre W ∧ Bk (R .done (some c)) W) W1
    (hb0.trans ((Below.refl _ w).grown hg1 (by rw [hB]; have := hb0.size; omega) (fun k e => by cases e)))
    (fun s X Y row hs hgr hrow => ⟨hm hI s X Y row hs.1 hgr hrow, hm1 _ () X Y row hs.2 hgr hrow⟩)
    (fun s X Y row hs hgr hrow => by obtain ⟨c, hc, hk⟩ := hs; exact ⟨c, hm (hIx c) s X Y row hc hgr hrow, hm1 _ () X Y row hk hgr hrow⟩)
    ?_ ⟨hI.grown h0 hg1, hk1⟩).mono ?_
  · rintro pre x W ⟨hi, hk⟩ hlt hlen
    rw [hz1] at hlt
    refine ⟨fn, _, assign, body, run_yield (P := P) (args := encs x) hk.1 (hps x), roundIn_of_wpIn hfn (hassign _ pre x W _ hi hlt ?_)⟩
    intro a' Wa hla hkpa hia hax
    have hka := hBkl hla hk
    have hlta : B + 2 < Wa.heap.size := Nat.lt_of_lt_of_le hlt hla.size
    refine ⟨_, run_beginRound hka.1 (hRs _ _), ?_⟩
    have hkb := hBkp { R .ready none with state := .busy } hka
    have hpa : Kp Wa (Wa.putObj (B + 1) (.loop { R .ready none with state := .busy })) := hKb _ _ _ (by omega) (by omega)
    have hsame : ∀ (X : World) (o : Obj), (X.putObj (B + 1) o).heap[B + 2]? = X.heap[B + 2]? := fun X o => World.putObj_heap_other (by omega)
    refine wpIn_mono (hbody _ pre x a' _ (hI.put _ _ hia (by omega) (by omega)) ((hAx x a').put (s := ()) _ _ hax (by omega) (by omega)) (by simp; omega) hlen) ?_
    -- the round's end
    have fin : ∀ (jump : Option Code) (W3 : World), Lie B (B + 2) (Wa.putObj (B + 1) (.loop { R .ready none with state := .busy })) W3 →
        (Instr.endRound (B + 1) jump).run P W3 = .ok (.bool jump.isNone) (W3.putObj (B + 1) (.loop (R (if jump.isNone then .ready else .done) jump))) ∧
        Bk (R (if jump.isNone then .ready else .done) jump) (W3.putObj (B + 1) (.loop (R (if jump.isNone then .ready else .done) jump))) := fun jump W3 hl3 =>
      ⟨run_endRound (P := P) jump (hBkl hl3 hkb).1, hBkp _ (hBkl hl3 hkb)⟩
    rintro e a3 W3 hp
    cases e with
    | normal =>
      obtain ⟨hl3, hkp3, hi3⟩ := hp
      obtain ⟨hr, hk3⟩ := fin none W3 hl3
      have hz3 : B + 2 < W3.heap.size := Nat.lt_of_lt_of_le (by simp; omega) hl3.size
      refine ⟨_, _, hr, .inl ⟨rfl, ⟨hI.put _ _ hi3 (by omega) (by omega), hk3⟩, ?_, ?_, hKt hkpa (hKt hpa (hKt hkp3 (hKb _ _ _ (by omega) (by omega))))⟩⟩
      · rw [hz1, hsame, hl3.same _ (by omega) (by omega) (by simp; omega), hsame, hla.same _ (by omega) (by omega) hlt]
      · have h1 := hl3.size
        have h2 := hla.size
        simp at h1 ⊢; omega
    | ret => obtain ⟨hl3, hi3⟩ := hp; obtain ⟨hr, hk3⟩ := fin (some .ret) W3 hl3; exact ⟨_, _, hr, .inr ⟨rfl, _, (hIx _).put _ _ hi3 (by omega) (by omega), hk3⟩⟩
    | exit id => obtain ⟨hl3, hi3⟩ := hp; obtain ⟨hr, hk3⟩ := fin (some (.exit id)) W3 hl3; exact ⟨_, _, hr, .inr ⟨rfl, _, (hIx _).put _ _ hi3 (by omega) (by omega), hk3⟩⟩
    | goto t => obtain ⟨hl3, hi3⟩ := hp; obtain ⟨hr, hk3⟩ := fin (some (.goto t)) W3 hl3; exact ⟨_, _, hr, .inr ⟨rfl, _, (hIx _).put _ _ hi3 (by omega) (by omega), hk3⟩⟩
    | panic ch => exact hp.elim
    | outgrown => exact hp.elim
  · rintro e W2 ⟨⟨v, rfl⟩, (⟨xs, hS, hi, hk⟩ | ⟨pre, hSp, c, hi, hk⟩)⟩
    · exact ⟨none, _, run_endLoop (P := P) hk.1 (by rw [hRs]; simp), hdone xs _ hS (hI.put _ _ hi (by omega) (by omega)) ((World.putObj_heap_other (by omega)).trans hk.2)⟩
    · exact ⟨some c, _, run_endLoop (P := P) hk.1 (by rw [hRs]; simp), hstop c pre _ hSp ((hIx c).put _ _ hi (by omega) (by omega)) ((World.putObj_heap_other (by omega)).trans hk.2)⟩
end Oc
