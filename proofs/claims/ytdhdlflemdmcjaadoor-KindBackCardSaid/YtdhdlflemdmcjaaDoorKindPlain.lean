/- The kinds of blocks: what their table says, in plain Lean: no program in sight. -/
import Derived.Test.YtdhdlflemdmcjaaDoorWords
import Derived.Maps.Views
import Derived.StringKeys
namespace Oc
set_option linter.unusedVariables false
open Go

def knames : List ByteArray := [⟨#[97, 105, 114]⟩, ⟨#[115, 116, 111, 110, 101]⟩, ⟨#[100, 105, 114, 116]⟩, ⟨#[103, 114, 97, 115, 115]⟩, ⟨#[115, 97, 110, 100]⟩, ⟨#[119, 97, 116, 101, 114]⟩, ⟨#[103, 114, 97, 118, 101, 108]⟩, ⟨#[99, 111, 97, 108]⟩, ⟨#[105, 114, 111, 110]⟩, ⟨#[103, 111, 108, 100]⟩, ⟨#[108, 111, 103]⟩, ⟨#[108, 101, 97, 118, 101, 115]⟩, ⟨#[98, 114, 105, 99, 107]⟩, ⟨#[108, 97, 109, 112]⟩, ⟨#[103, 108, 97, 115, 115]⟩, ⟨#[98, 101, 100, 114, 111, 99, 107]⟩]
def kclears : List Bool := [true, false, false, false, false, false, false, false, false, false, false, false, false, false, true, false]
def klosses : List Int := [1, 16, 16, 16, 16, 3, 16, 16, 16, 16, 16, 2, 16, 1, 1, 16]
def kemitss : List Int := [0, 0, 0, 0, 0, 0, 0, 0, 0, 3, 0, 0, 0, 14, 0, 0]
def kname (n : Nat) : ByteArray := knames.getD n ⟨#[]⟩
def kclear (n : Nat) : Bool := kclears.getD n false
def kloss (n : Nat) : Int := klosses.getD n 0
def kemits (n : Nat) : Int := kemitss.getD n 0
def kcells : Array Value := #[.string ⟨#[97, 105, 114]⟩, .bool true, .int .i64 1, .int .i64 0, .string ⟨#[115, 116, 111, 110, 101]⟩, .bool false, .int .i64 16, .int .i64 0, .string ⟨#[100, 105, 114, 116]⟩, .bool false, .int .i64 16, .int .i64 0, .string ⟨#[103, 114, 97, 115, 115]⟩, .bool false, .int .i64 16, .int .i64 0, .string ⟨#[115, 97, 110, 100]⟩, .bool false, .int .i64 16, .int .i64 0, .string ⟨#[119, 97, 116, 101, 114]⟩, .bool false, .int .i64 3, .int .i64 0, .string ⟨#[103, 114, 97, 118, 101, 108]⟩, .bool false, .int .i64 16, .int .i64 0, .string ⟨#[99, 111, 97, 108]⟩, .bool false, .int .i64 16, .int .i64 0, .string ⟨#[105, 114, 111, 110]⟩, .bool false, .int .i64 16, .int .i64 0, .string ⟨#[103, 111, 108, 100]⟩, .bool false, .int .i64 16, .int .i64 3, .string ⟨#[108, 111, 103]⟩, .bool false, .int .i64 16, .int .i64 0, .string ⟨#[108, 101, 97, 118, 101, 115]⟩, .bool false, .int .i64 2, .int .i64 0, .string ⟨#[98, 114, 105, 99, 107]⟩, .bool false, .int .i64 16, .int .i64 0, .string ⟨#[108, 97, 109, 112]⟩, .bool false, .int .i64 1, .int .i64 14, .string ⟨#[103, 108, 97, 115, 115]⟩, .bool true, .int .i64 1, .int .i64 0, .string ⟨#[98, 101, 100, 114, 111, 99, 107]⟩, .bool false, .int .i64 16, .int .i64 0]
theorem kcells_name (n : Nat) (h : n < 16) : kcells[n * 4]? = some (.string (kname n)) := by
  rcases n with _ | _ | _ | _ | _ | _ | _ | _ | _ | _ | _ | _ | _ | _ | _ | _ | n
  all_goals first | rfl | omega
theorem kcells_clear (n : Nat) (h : n < 16) : kcells[n * 4 + 1]? = some (.bool (kclear n)) := by
  rcases n with _ | _ | _ | _ | _ | _ | _ | _ | _ | _ | _ | _ | _ | _ | _ | _ | n
  all_goals first | rfl | omega
theorem kcells_loss (n : Nat) (h : n < 16) : kcells[n * 4 + 2]? = some (.int .i64 (kloss n)) := by
  rcases n with _ | _ | _ | _ | _ | _ | _ | _ | _ | _ | _ | _ | _ | _ | _ | _ | n
  all_goals first | rfl | omega
theorem kcells_emits (n : Nat) (h : n < 16) : kcells[n * 4 + 3]? = some (.int .i64 (kemits n)) := by
  rcases n with _ | _ | _ | _ | _ | _ | _ | _ | _ | _ | _ | _ | _ | _ | _ | _ | n
  all_goals first | rfl | omega

/-- The table lies in a block. -/
def KTab (w : World) (g : Nat) : Prop := ∃ t fr, w.heap[g]? = some (.cells kcells t fr)
theorem KTab.lt {w : World} {g : Nat} (h : KTab w g) : g < w.heap.size := by
  obtain ⟨t, fr, h⟩ := h
  by_cases hlt : g < w.heap.size
  · exact hlt
  · have hn : w.heap[g]? = none := by simp; omega
    rw [hn] at h; cases h
theorem KTab.later {w w' : World} {g : Nat} (h : KTab w g) (hb : Go.RowKit.Below w.heap.size w w') : KTab w' g := by
  have hl := h.lt
  obtain ⟨t, fr, h⟩ := h
  exact ⟨t, fr, (hb.block g hl).trans h⟩
theorem KTab.cells {w : World} {g : Nat} (h : KTab w g) (n : Nat) (hn : n < 16) :
    w.cell? ⟨g, n * 4, none⟩ = some (.string (kname n)) ∧ w.cell? ⟨g, n * 4 + 1, none⟩ = some (.bool (kclear n)) ∧ w.cell? ⟨g, n * 4 + 2, none⟩ = some (.int .i64 (kloss n)) ∧ w.cell? ⟨g, n * 4 + 3, none⟩ = some (.int .i64 (kemits n)) := by
  obtain ⟨t, fr, h⟩ := h
  exact ⟨(cell_of_row w g _ _ t fr h).trans (kcells_name n hn), (cell_of_row w g _ _ t fr h).trans (kcells_clear n hn), (cell_of_row w g _ _ t fr h).trans (kcells_loss n hn), (cell_of_row w g _ _ t fr h).trans (kcells_emits n hn)⟩

def knameG (k : Int) : ByteArray := if 0 ≤ k ∧ k < 16 then kname k.toNat else ⟨#[]⟩
def klossG (k : Int) : Int := if 0 ≤ k ∧ k < 16 then kloss k.toNat else 0
def kemitsG (k : Int) : Int := if 0 ≤ k ∧ k < 16 then kemits k.toNat else 0
def kclearG (k : Int) : Bool := if 0 ≤ k ∧ k < 16 then kclear k.toNat else false
def kopaqueG (k : Int) : Bool := klossG k == 16

theorem kname_inj (m n : Nat) (hm : m < 16) (hn : n < 16) (h : kname m = kname n) : m = n := by
  have key : ∀ m, m < 16 → ∀ n, n < 16 → kname m = kname n → m = n := by decide
  exact key m hm n hn h
theorem kname_size (n : Nat) : (kname n).size ≤ maxLen := by
  by_cases h : n < 16
  · have key : ∀ m, m < 16 → (kname m).size ≤ 7 := by decide
    have := key n h
    unfold maxLen; omega
  · have : kname n = ⟨#[]⟩ := by unfold kname; rw [List.getD_eq_getElem?_getD, List.getElem?_eq_none (by simp [knames]; omega)]; rfl
    rw [this]; decide

/-- What the kind of a name is: its number, or none. -/
def IsOf (s : ByteArray) (i : Int) (b : Bool) : Prop := (b = true ∧ ∃ n : Nat, n < 16 ∧ i = (n : Int) ∧ kname n = s) ∨ (b = false ∧ i = 0 ∧ ∀ n : Nat, n < 16 → kname n ≠ s)
theorem IsOf.unique {s : ByteArray} {i j : Int} {b c : Bool} (h : IsOf s i b) (k : IsOf s j c) : i = j ∧ b = c := by
  rcases h with ⟨rfl, n, hn, rfl, e⟩ | ⟨rfl, rfl, e⟩ <;> rcases k with ⟨rfl, m, hm, rfl, f⟩ | ⟨rfl, rfl, f⟩
  · have := kname_inj n m hn hm (e.trans f.symm); subst this; exact ⟨rfl, rfl⟩
  · exact absurd e (f n hn)
  · exact absurd f (e m hm)
  · exact ⟨rfl, rfl⟩
theorem IsOf.of_name (n : Nat) (h : n < 16) : IsOf (kname n) n true := .inl ⟨rfl, n, h, rfl, rfl⟩

/-! ### The map that 'Of' makes -/
def kdata {H : Type} : Nat → DataW H
  | 0 => .map []
  | k + 1 => (kdata k).put (.string (kname k).data.toList) (.lit (.int .i64 k))
theorem kdata_isMap {H : Type} (k : Nat) : Maps.IsMap (kdata (H := H) k) := by
  induction k with
  | zero => exact Maps.isMap_empty
  | succ k ih => exact ih.put _ _
theorem bytes_inj {a b : ByteArray} (h : a.data.toList = b.data.toList) : a = b := by
  cases a with | mk a => cases b with | mk b =>
  have : a = b := Array.toList_inj.1 h
  rw [this]
theorem kdata_reads {H : Type} (s : ByteArray) (k : Nat) (hk : k ≤ 16) :
    (∃ n, n < k ∧ kname n = s ∧ (kdata (H := H) k).atKey (.string s.data.toList) (.lit (.int .i64 0)) = .lit (.int .i64 n) ∧ Maps.has (kdata (H := H) k) (.string s.data.toList) = true) ∨
    ((∀ n, n < k → kname n ≠ s) ∧ (kdata (H := H) k).atKey (.string s.data.toList) (.lit (.int .i64 0)) = .lit (.int .i64 0) ∧ Maps.has (kdata (H := H) k) (.string s.data.toList) = false) := by
  induction k with
  | zero => right; exact ⟨fun n h => by omega, rfl, rfl⟩
  | succ k ih =>
    have key : WideAt.IsKeyLit (.string s.data.toList) := by trivial
    by_cases e : kname k = s
    · left
      refine ⟨k, by omega, e, ?_, ?_⟩
      · simp only [kdata]; rw [e]; exact Maps.atKey_put_same (kdata_isMap k) key _ _
      · simp only [kdata]; rw [e]; exact Maps.has_put_same (kdata_isMap k) key _
    · have hne : (Lit.string s.data.toList) ≠ .string (kname k).data.toList := by
        intro h; injection h with h; exact e (bytes_inj h.symm)
      simp only [kdata]
      rw [Maps.atKey_put_other hne, Maps.has_put_other hne]
      rcases ih (by omega) with ⟨n, hn, h1, h2, h3⟩ | ⟨h1, h2, h3⟩
      · left; exact ⟨n, by omega, h1, h2, h3⟩
      · right; refine ⟨fun n hn => ?_, h2, h3⟩
        by_cases g : n = k
        · subst g; exact e
        · exact h1 n (by omega)
theorem kdata_isOf {H : Type} (s : ByteArray) (c : Int) (h : (kdata (H := H) 16).atKey (.string s.data.toList) (.lit (.int .i64 0)) = .lit (.int .i64 c)) : IsOf s c (Maps.has (kdata (H := H) 16) (.string s.data.toList)) := by
  rcases kdata_reads (H := H) s 16 (Nat.le_refl _) with ⟨n, hn, h1, h2, h3⟩ | ⟨h1, h2, h3⟩
  · rw [h2] at h; rw [h3]; injection h with h; injection h with _ h
    exact .inl ⟨rfl, n, hn, h.symm, h1⟩
  · rw [h2] at h; rw [h3]; injection h with h; injection h with _ h
    exact .inr ⟨rfl, h.symm, h1⟩
end Oc
