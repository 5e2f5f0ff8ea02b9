/- How high the ground is, in plain Lean: no program in sight. -/
import Derived.Test.YtacdjinfalohnaaNoiseMore
namespace Oc
set_option linter.unusedVariables false
open Go
open Go.RowKit (wrap64)

def hgt (seed x z : Int) : Int := 20 + 72 * oct seed 10 x z 6 4 / 65536
def bandOf (n : Int) : Int := if n < 16000 then 2 else if n < 25000 then 0 else if n < 36000 then 1 else 3
def band (seed x z : Int) : Int := bandOf (oct seed 11 x z 7 2)

theorem hgt_range (seed x z : Int) : 20 ≤ hgt seed x z ∧ hgt seed x z ≤ 91 := by
  have := oct_range seed 10 x z 6 4 (by decide)
  unfold hgt; omega
theorem band_range (seed x z : Int) : 0 ≤ band seed x z ∧ band seed x z ≤ 3 := by
  unfold band bandOf; repeat' split
  all_goals omega

/-- Sums of heights of places side by side. -/
theorem oct4 (seed x z : Int) : oct seed 10 x z 6 4 = flat seed (wrap64 (10 + 100 * ((0 : Nat) : Int))) x z ((6 : Nat) : Int) / 2 + flat seed (wrap64 (10 + 100 * ((1 : Nat) : Int))) x z ((5 : Nat) : Int) / 4 + flat seed (wrap64 (10 + 100 * ((2 : Nat) : Int))) x z ((4 : Nat) : Int) / 8 + flat seed (wrap64 (10 + 100 * ((3 : Nat) : Int))) x z ((3 : Nat) : Int) / 16 := by
  simp only [oct]
  rw [show (6 : Int) - ((0 : Nat) : Int) = ((6 : Nat) : Int) from rfl, show (6 : Int) - ((1 : Nat) : Int) = ((5 : Nat) : Int) from rfl, show (6 : Int) - ((2 : Nat) : Int) = ((4 : Nat) : Int) from rfl, show (6 : Int) - ((3 : Nat) : Int) = ((3 : Nat) : Int) from rfl]
  simp only [Nat.reduceAdd, Int.reducePow]
  omega
theorem most6 : most 6 = 1539 := by decide
theorem most5 : most 5 = 3075 := by decide
theorem most4 : most 4 = 6147 := by decide
theorem most3 : most 3 = 12291 := by decide
theorem hgt_near (a b c d a' b' c' d' : Int) (h0 : a' ≤ a + 1539 ∧ a ≤ a' + 1539) (h1 : b' ≤ b + 3075 ∧ b ≤ b' + 3075) (h2 : c' ≤ c + 6147 ∧ c ≤ c' + 6147) (h3 : d' ≤ d + 12291 ∧ d ≤ d' + 12291) :
    72 * (a' / 2 + b' / 4 + c' / 8 + d' / 16) / 65536 - 72 * (a / 2 + b / 4 + c / 8 + d / 16) / 65536 ≤ 5 ∧ 72 * (a / 2 + b / 4 + c / 8 + d / 16) / 65536 - 72 * (a' / 2 + b' / 4 + c' / 8 + d' / 16) / 65536 ≤ 5 := by
  omega
theorem hgt_step_x (seed x z : Int) (hx : -9223372036854775807 ≤ x ∧ x ≤ 9223372036854775806) : hgt seed (x + 1) z - hgt seed x z ≤ 5 ∧ hgt seed x z - hgt seed (x + 1) z ≤ 5 := by
  have s := fun st n hn => slope_x seed st x z n hn hx
  have k := hgt_near _ _ _ _ _ _ _ _ (most6 ▸ s (wrap64 (10 + 100 * ((0 : Nat) : Int))) 6 (by decide)) (most5 ▸ s (wrap64 (10 + 100 * ((1 : Nat) : Int))) 5 (by decide)) (most4 ▸ s (wrap64 (10 + 100 * ((2 : Nat) : Int))) 4 (by decide)) (most3 ▸ s (wrap64 (10 + 100 * ((3 : Nat) : Int))) 3 (by decide))
  unfold hgt
  rw [oct4, oct4]
  omega
theorem hgt_step_z (seed x z : Int) (hz : -9223372036854775807 ≤ z ∧ z ≤ 9223372036854775806) : hgt seed x (z + 1) - hgt seed x z ≤ 5 ∧ hgt seed x z - hgt seed x (z + 1) ≤ 5 := by
  have s := fun st n hn => slope_z seed st x z n hn hz
  have k := hgt_near _ _ _ _ _ _ _ _ (most6 ▸ s (wrap64 (10 + 100 * ((0 : Nat) : Int))) 6 (by decide)) (most5 ▸ s (wrap64 (10 + 100 * ((1 : Nat) : Int))) 5 (by decide)) (most4 ▸ s (wrap64 (10 + 100 * ((2 : Nat) : Int))) 4 (by decide)) (most3 ▸ s (wrap64 (10 + 100 * ((3 : Nat) : Int))) 3 (by decide))
  unfold hgt
  rw [oct4, oct4]
  omega

/-! ### A chunk's columns -/
/-- A column: two numbers that an int holds. -/
abbrev Col := { p : Int × Int // I p.1 ∧ I p.2 }
structure Small (cx cz : Int) : Prop where
  x0 : -1073741825 ≤ cx
  x1 : cx ≤ 1073741825
  z0 : -1073741825 ≤ cz
  z1 : cz ≤ 1073741825
def colAt {cx cz : Int} (h : Small cx cz) (i : Nat) : Col :=
  ⟨(cx * 16 + ((i % 16 : Nat) : Int), cz * 16 + ((i / 16 % 16 : Nat) : Int)), by
    obtain ⟨a, b, c, d⟩ := h
    unfold I
    exact ⟨by omega, by omega⟩⟩
def cols {cx cz : Int} (h : Small cx cz) (n : Nat) : List Col := (List.range n).map (colAt h)
theorem cols_zero {cx cz : Int} (h : Small cx cz) : cols h 0 = [] := rfl
theorem cols_succ {cx cz : Int} (h : Small cx cz) (n : Nat) : cols h n ++ [colAt h n] = cols h (n + 1) := by simp [cols, List.range_succ]
theorem cols_length {cx cz : Int} (h : Small cx cz) (n : Nat) : (cols h n).length = n := by simp [cols]
theorem cols_prefix {cx cz : Int} (h : Small cx cz) (m n : Nat) (hm : m ≤ n) : cols h m <+: cols h n := by
  induction n with
  | zero => obtain rfl : m = 0 := by omega
            exact List.prefix_refl _
  | succ n ih =>
    by_cases e : m = n + 1
    · subst e; exact List.prefix_refl _
    · exact (ih (by omega)).trans ⟨[colAt h n], cols_succ h n⟩
/-- What a function says of each. -/
def vals (g : Int → Int → Int) (l : List Col) : List Value := l.map fun p => .int .i64 (g p.1.1 p.1.2)
theorem vals_snoc (g : Int → Int → Int) (l : List Col) (p : Col) : vals g (l ++ [p]) = vals g l ++ [.int .i64 (g p.1.1 p.1.2)] := by simp [vals]
theorem vals_at (g : Int → Int → Int) {cx cz : Int} (h : Small cx cz) (n i : Nat) (hi : i < n) : (vals g (cols h n))[i]? = some (.int .i64 (g (cx * 16 + ((i % 16 : Nat) : Int)) (cz * 16 + ((i / 16 % 16 : Nat) : Int)))) := by
  simp [vals, cols, List.getElem?_range hi, colAt]
end Oc
