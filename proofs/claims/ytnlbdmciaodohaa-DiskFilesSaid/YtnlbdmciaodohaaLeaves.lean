/- An argument that is a slice of structs of numbers and of rows of numbers: what a walk is told of its cells. -/
import Derived.Deep.Slices
import Derived.ChangeSlices
import Derived.ChangeArms
import Derived.Test.YtnlbdmciaodohaaWords
namespace Oc
open Go Go.RowKit Go.ChangeShapes Go.WideShapes Go.Deep
set_option linter.unusedVariables false
/-- A cell of such a struct: a number of a kind; a slice of numbers of a kind. -/
inductive Leaf where
  | int (k : IntKind)
  | row (k : IntKind)
def LeafOk (w : World) : Leaf → Value → Prop
  | .int k, v => ∃ n, v = .int k n ∧ (Lit.int k n).wf = true
  | .row k, v => ∃ a len cap zs, v = .slice a len cap ∧ IsRow k w a len cap zs
mutual
/-- The cells of a type, one behind the other. -/
def leaves (P : Program) : Nat → TypeId → Option (List Leaf)
  | 0, _ => none
  | d + 1, t => match P.underlying t with
    | some (.int k) => some [.int k]
    | some (.slice e) => (match P.underlying e with
      | some (.int k) => if P.cellsOf e = 1 then some [.row k] else none
      | _ => none)
    | some (.struct fs) => leavesF P d fs.toList 0
    | _ => none
def leavesF (P : Program) : Nat → List Field → Nat → Option (List Leaf)
  | _, [], _ => some []
  | 0, _ :: _, _ => none
  | d + 1, f :: fs, off => match leaves P d f.type with
    | none => none
    | some l => if f.offset = off ∧ P.cellsOf f.type = l.length then (leavesF P d fs (off + l.length)).map (l ++ ·) else none
end
variable {H : Type} {enc : TypeId × Value → H} {P : Program} {w : World} {base : Nat} {held : Bool}
theorem sub_get {cs l : List Value} {o s : Nat} (h : (cs.drop o).take s = l) {j : Nat} (hj : j < s) : cs[o + j]? = l[j]? := by
  rw [← h, List.getElem?_take_of_lt hj, List.getElem?_drop]
mutual
theorem leaves_ok : ∀ (d : Nat) (t : TypeId) (ls : List Leaf) (fuel : Nat) (cs : List Value) (x : DataW H × List MemPlace), leaves P d t = some ls → DataW.trod enc P w base (fun _ => true) held fuel t cs = some x →
    ∀ (j : Nat) (l : Leaf), ls[j]? = some l → ∃ v, cs[j]? = some v ∧ LeafOk w l v
  | 0, _, _, _, _, _, h, _ => by simp [leaves] at h
  | d + 1, t, ls, fuel, cs, x, h, ht => by
    intro j l hj
    unfold leaves at h
    split at h
    · next k hk =>
      obtain rfl := Option.some.inj h
      obtain ⟨n, rfl, _, hw⟩ := DataW.trod_int hk ht
      cases j with
      | zero => simp at hj; subst hj; exact ⟨_, rfl, n, rfl, hw⟩
      | succ j => simp at hj
    · next e he =>
      split at h
      · next k hk =>
        split at h
        · next hc =>
          obtain rfl := Option.some.inj h
          cases j with
          | succ j => simp at hj
          | zero =>
            simp at hj; subst hj
            rcases open_ints he hk hc ht with ⟨rfl, _⟩ | ⟨a, len, cap, zs, rfl, _, hl, hm, hz, _, hcell, hwz⟩
            · exact ⟨_, rfl, none, 0, 0, [], rfl, .inl ⟨rfl, rfl, rfl, rfl⟩⟩
            · exact ⟨_, rfl, some a, len, cap, zs, rfl, .inr ⟨a, rfl, hl, hm, by simpa using hz, hcell, hwz⟩⟩
        · cases h
      · cases h
    · next fs hfs =>
      obtain ⟨xs, n, _, _, hlen, hxl, hf⟩ := DataW.trod_struct hfs ht
      have := leavesF_ok d fs.toList 0 ls n cs xs 0 h (fun i f hi => by have := hf i f (by simpa using hi); simpa using this) (fun i hi => by
        have : i < fs.size := by simpa using hi
        rw [← hxl] at this
        simpa using this) j l hj
      simpa using this
    · cases h
theorem leavesF_ok : ∀ (d : Nat) (fs : List Field) (off : Nat) (ls : List Leaf) (n : Nat) (cs : List Value) (xs : List (DataW H × List MemPlace)) (m : Nat), leavesF P d fs off = some ls →
    (∀ (i : Nat) (f : Field), fs[i]? = some f → DataW.trod enc P w base (fun _ => true) held n f.type ((cs.drop f.offset).take (P.cellsOf f.type)) = xs[m + i]?) → (∀ i, i < fs.length → m + i < xs.length) →
    ∀ (j : Nat) (l : Leaf), ls[j]? = some l → ∃ v, cs[off + j]? = some v ∧ LeafOk w l v
  | _, [], _, ls, _, _, _, _, h, _, _ => by
    intro j l hj
    simp [leavesF] at h
    subst h
    simp at hj
  | 0, _ :: _, _, _, _, _, _, _, h, _, _ => by simp [leavesF] at h
  | d + 1, f :: fs, off, ls, n, cs, xs, m, h, hf, hx => by
    intro j l hj
    unfold leavesF at h
    split at h
    · cases h
    · next l0 hl0 =>
      split at h
      · next hc =>
        obtain ⟨ho, hc⟩ := hc
        cases hr : leavesF P d fs (off + l0.length) with
        | none => rw [hr] at h; cases h
        | some lr =>
          rw [hr] at h
          simp at h
          subst h
          by_cases hjl : j < l0.length
          · rw [List.getElem?_append_left hjl] at hj
            have h0 := hf 0 f rfl
            have hm := hx 0 (by simp)
            rw [List.getElem?_eq_getElem hm] at h0
            obtain ⟨v, hv, hok⟩ := leaves_ok d f.type l0 n _ _ hl0 h0 j l hj
            refine ⟨v, ?_, hok⟩
            rw [← ho, sub_get (o := f.offset) (s := P.cellsOf f.type) rfl (by rw [hc]; exact hjl)]
            exact hv
          · rw [List.getElem?_append_right (by omega)] at hj
            obtain ⟨v, hv, hok⟩ := leavesF_ok d fs (off + l0.length) lr n cs xs (m + 1) hr (fun i g hg => by
              have := hf (i + 1) g (by simpa using hg)
              rw [this]; congr 1; omega) (fun i hi => by have := hx (i + 1) (by simp; omega); omega) (j - l0.length) l hj
            exact ⟨v, by rw [← hv]; congr 1; omega, hok⟩
      · cases h
end
/-- What a walk is told of such a slice. -/
def IsStructs (ls : List Leaf) (w : World) (a : Option Addr) (len cap : Nat) : Prop :=
  len = 0 ∨
  ∃ b off, a = some ⟨b, off, none⟩ ∧ b < w.heap.size ∧ len ≤ cap ∧ cap ≤ maxLen ∧ ∀ i, i < len → ∀ (j : Nat) (l : Leaf), ls[j]? = some l → ∃ v, w.cell? ⟨b, off + (i * ls.length + j), none⟩ = some v ∧ LeafOk w l v
theorem open_structs {t e : TypeId} {fuel d : Nat} {a : Option Addr} {len cap : Nat} {x : DataW H × List MemPlace} {ls : List Leaf} (ht : P.underlying t = some (.slice e)) (hl : leaves P d e = some ls) (hc : P.cellsOf e = ls.length) (h0 : ls[0]?.isSome = true)
    (h : DataW.trod enc P w base (fun _ => true) held fuel t [.slice a len cap] = some x) : IsStructs ls w a len cap := by
  rcases open_slice ht h with ⟨hcs, _⟩ | ⟨p, len', cap', m, n, D, Pl, hcs, hb, hlc, hcm, hm, _, hi⟩
  · simp at hcs; exact .inl hcs.2.1
  · simp at hcs
    obtain ⟨rfl, rfl, rfl⟩ := hcs
    simp at hm
    subst hm
    by_cases hz : len = 0
    · exact .inl hz
    · right
      obtain ⟨l0, hl0⟩ := Option.isSome_iff_exists.1 h0
      have hls : 0 < ls.length := (List.getElem?_eq_some_iff.1 hl0).1
      have hsp : ∀ i, i < len → ∀ (j : Nat) (l : Leaf), ls[j]? = some l → ∃ v, w.cell? ((p.add (i * ls.length)).add j) = some v ∧ LeafOk w l v := fun i hi' j l hj => by
        obtain ⟨cs', h1, h2⟩ := hi i (by omega)
        rw [hc] at h1
        obtain ⟨_, _, h3⟩ := World.cells?_some h1
        obtain ⟨v, hv, hok⟩ := leaves_ok d e ls _ _ _ hl h2 j l hj
        exact ⟨v, by rw [h3 j (List.getElem?_eq_some_iff.1 hj).1, hv], hok⟩
      obtain ⟨v0, hv0, _⟩ := hsp 0 (by omega) 0 l0 hl0
      obtain ⟨b, off, spot⟩ := p
      have hspot : spot = none := by simpa [Addr.add] using World.cell?_spot hv0
      subst hspot
      refine ⟨b, off, rfl, by simpa [Addr.add] using block_lt_of_cell hv0, hlc, hcm, fun i hi' j l hj => ?_⟩
      obtain ⟨v, hv, hok⟩ := hsp i hi' j l hj
      refine ⟨v, ?_, hok⟩
      rw [show (⟨b, off + (i * ls.length + j), none⟩ : Addr) = ((⟨b, off, none⟩ : Addr).add (i * ls.length)).add j by
        unfold Addr.add
        by_cases e1 : i * ls.length = 0 <;> by_cases e2 : j = 0 <;> simp [e1, e2] <;> omega]
      exact hv
end Oc
