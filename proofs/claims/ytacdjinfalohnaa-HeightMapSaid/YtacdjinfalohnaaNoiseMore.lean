/- How heights of places side by side differ, in plain Lean: no program in sight. -/
import Derived.Test.YtacdjinfalohnaaNoisePlain
namespace Oc
set_option linter.unusedVariables false
open Go
open Go.RowKit (wrap64)

theorem flat_corners (seed stage x z s lo hi : Int) (h0 : lo ≤ lat seed stage (cell x s) (cell z s) ∧ lat seed stage (cell x s) (cell z s) ≤ hi)
    (h1 : lo ≤ lat seed stage (wrap64 (cell x s + 1)) (cell z s) ∧ lat seed stage (wrap64 (cell x s + 1)) (cell z s) ≤ hi)
    (h2 : lo ≤ lat seed stage (cell x s) (wrap64 (cell z s + 1)) ∧ lat seed stage (cell x s) (wrap64 (cell z s + 1)) ≤ hi)
    (h3 : lo ≤ lat seed stage (wrap64 (cell x s + 1)) (wrap64 (cell z s + 1)) ∧ lat seed stage (wrap64 (cell x s + 1)) (wrap64 (cell z s + 1)) ≤ hi) :
    lo ≤ flat seed stage x z s ∧ flat seed stage x z s ≤ hi :=
  between_range _ _ _ lo hi (tval_range _ _).1 (tval_range _ _).2 (between_range _ _ _ lo hi (tval_range _ _).1 (tval_range _ _).2 h0 h1) (between_range _ _ _ lo hi (tval_range _ _).1 (tval_range _ _).2 h2 h3)

theorem cell_at (x : Int) (n : Nat) : cell (x * 2 ^ n) n = x := by
  unfold cell; rw [side_nat]
  exact Int.mul_ediv_cancel x (by have := Int.pow_pos (n := 2) (m := n) (by decide); omega)
theorem tval_at (x : Int) (n : Nat) : tval (x * 2 ^ n) n = 0 := by
  unfold tval frac; rw [side_nat, Int.mul_emod_left]; simp [fade_zero]
theorem flat_meets (seed stage x z : Int) (n : Nat) : flat seed stage (x * 2 ^ n) (z * 2 ^ n) n = lat seed stage x z := by
  unfold flat flatAt
  rw [cell_at, cell_at, tval_at, tval_at, between_zero, between_zero]
theorem flat_narrow (seed stage x z : Int) : flat seed stage x z 0 = lat seed stage x z := by
  have h := flat_meets seed stage x z 0
  simpa using h

/-- The same row, a little further along. -/
theorem between_along (a b t u D : Int) (ha : 0 ≤ a ∧ a ≤ 65535) (hb : 0 ≤ b ∧ b ≤ 65535) (h0 : t ≤ u) (h1 : u ≤ t + D) :
    between a b u ≤ between a b t + D ∧ between a b t ≤ between a b u + D := by
  unfold between
  have e : (b - a) * u = (b - a) * t + (b - a) * (u - t) := by rw [← Int.mul_add]; congr 1; omega
  have p : (b - a) * (u - t) ≤ 65535 * (u - t) := Int.mul_le_mul_of_nonneg_right (by omega) (by omega)
  have q : -65535 * (u - t) ≤ (b - a) * (u - t) := Int.mul_le_mul_of_nonneg_right (by omega) (by omega)
  rw [e]
  omega
/-- Two rows, each a little higher or lower. -/
theorem between_rows (a b c d t D : Int) (ht0 : 0 ≤ t) (ht1 : t ≤ 65536) (h0 : c ≤ a + D ∧ a ≤ c + D) (h1 : d ≤ b + D ∧ b ≤ d + D) :
    between c d t ≤ between a b t + D ∧ between a b t ≤ between c d t + D := by
  unfold between
  have e : (d - c) * t = (b - a) * t + ((d - b) * t - (c - a) * t) := by rw [← Int.sub_mul, ← Int.add_mul]; congr 1; omega
  have f : (c - a) * t = 65536 * (c - a) - (c - a) * (65536 - t) := by
    have := Int.mul_sub (c - a) 65536 t
    omega
  have p1 : (d - b) * t ≤ D * t := Int.mul_le_mul_of_nonneg_right (by omega) ht0
  have p2 : -D * t ≤ (d - b) * t := Int.mul_le_mul_of_nonneg_right (by omega) ht0
  have p3 : (c - a) * (65536 - t) ≤ D * (65536 - t) := Int.mul_le_mul_of_nonneg_right (by omega) (by omega)
  have p4 : -D * (65536 - t) ≤ (c - a) * (65536 - t) := Int.mul_le_mul_of_nonneg_right (by omega) (by omega)
  have g : D * (65536 - t) = 65536 * D - D * t := by
    have := Int.mul_sub D 65536 t
    omega
  have g' : -D * (65536 - t) = -(65536 * D) + D * t := by rw [Int.neg_mul, g]; omega
  rw [Int.neg_mul] at p2
  rw [e]
  omega

/-- How far a step in a cell of side 2^n may lead at most. -/
def most (n : Nat) : Int := 98304 / 2 ^ n + 3
theorem frac_step (f : Int) (n : Nat) (hn : n ≤ 20) : 0 ≤ (f + 1) * 65536 / 2 ^ n - f * 65536 / 2 ^ n ∧ 3 * ((f + 1) * 65536 / 2 ^ n - f * 65536 / 2 ^ n) ≤ 2 * (98304 / 2 ^ n + 2) := by
  rcases n with _ | _ | _ | _ | _ | _ | _ | _ | _ | _ | _ | _ | _ | _ | _ | _ | _ | _ | _ | _ | _ | n
  all_goals first
    | omega
    | (simp only [Nat.reduceAdd, Int.reducePow]; omega)
theorem fade_step (f : Int) (n : Nat) (hn : n ≤ 20) (h0 : 0 ≤ f) (h1 : f + 1 ≤ 2 ^ n) :
    fade (f * 65536 / 2 ^ n) ≤ fade ((f + 1) * 65536 / 2 ^ n) ∧ fade ((f + 1) * 65536 / 2 ^ n) ≤ fade (f * 65536 / 2 ^ n) + most n := by
  have p := pow_range n hn
  have s := frac_step f n hn
  have c0 : 0 ≤ f * 65536 / 2 ^ n := Int.ediv_nonneg (by omega) (by omega)
  have d1 : (f + 1) * 65536 / 2 ^ n ≤ 65536 := by
    have := Int.ediv_le_ediv (show (0 : Int) < 2 ^ n by omega) (show (f + 1) * 65536 ≤ 65536 * 2 ^ n by omega)
    rwa [Int.mul_ediv_cancel _ (by omega)] at this
  unfold fade most
  rw [clamp_id _ c0 (by omega), clamp_id _ (by omega) d1]
  have st := fadeC_steep _ _ (98304 / 2 ^ n + 2) c0 (by omega) d1 s.2
  exact ⟨fadeC_mono _ _ c0 (by omega) d1, by omega⟩
/-- A step of one: within a cell, or to the next one's beginning. -/
theorem step_of (v : Int) (n : Nat) (hn : n ≤ 20) : ∃ u, tval v n ≤ u ∧ u ≤ tval v n + most n ∧ u ≤ 65536 ∧
    ((cell (v + 1) n = cell v n ∧ tval (v + 1) n = u) ∨ (cell (v + 1) n = cell v n + 1 ∧ tval (v + 1) n = 0 ∧ u = 65536)) := by
  have p := pow_range n hn
  unfold tval frac cell
  rw [side_nat]
  have m0 := Int.emod_nonneg v (show (2 : Int) ^ n ≠ 0 by omega)
  have m1 := Int.emod_lt_of_pos v (show 0 < (2 : Int) ^ n by omega)
  have st := fade_step (v % 2 ^ n) n hn m0 (by omega)
  have e := Int.mul_ediv_add_emod v (2 ^ n)
  refine ⟨_, st.1, st.2, (fade_range _).2, ?_⟩
  by_cases h : v % 2 ^ n + 1 < 2 ^ n
  · left
    have q := (Int.ediv_emod_unique (a := v + 1) (b := 2 ^ n) (r := v % 2 ^ n + 1) (q := v / 2 ^ n) (by omega)).2 ⟨by omega, by omega, h⟩
    rw [q.1, q.2]; exact ⟨rfl, rfl⟩
  · right
    have h' : v % 2 ^ n + 1 = 2 ^ n := by omega
    have q := (Int.ediv_emod_unique (a := v + 1) (b := 2 ^ n) (r := 0) (q := v / 2 ^ n + 1) (by omega)).2 ⟨by rw [Int.mul_add]; omega, by omega, by omega⟩
    rw [q.1, q.2, h', Int.mul_comm ((2 : Int) ^ n) 65536, Int.mul_ediv_cancel _ (by omega)]
    refine ⟨rfl, ?_, by decide⟩
    rw [Int.zero_mul, Int.zero_ediv]; exact fade_zero

theorem flatAt_along_x (seed stage cx cz t u tz D : Int) (hz : 0 ≤ tz ∧ tz ≤ 65536) (h0 : t ≤ u) (h1 : u ≤ t + D) :
    flatAt seed stage cx cz u tz ≤ flatAt seed stage cx cz t tz + D ∧ flatAt seed stage cx cz t tz ≤ flatAt seed stage cx cz u tz + D :=
  between_rows _ _ _ _ _ _ hz.1 hz.2 (between_along _ _ _ _ _ (lat_range _ _ _ _) (lat_range _ _ _ _) h0 h1) (between_along _ _ _ _ _ (lat_range _ _ _ _) (lat_range _ _ _ _) h0 h1)
theorem flatAt_along_z (seed stage cx cz tx t u D : Int) (hx : 0 ≤ tx ∧ tx ≤ 65536) (h0 : t ≤ u) (h1 : u ≤ t + D) :
    flatAt seed stage cx cz tx u ≤ flatAt seed stage cx cz tx t + D ∧ flatAt seed stage cx cz tx t ≤ flatAt seed stage cx cz tx u + D :=
  between_along _ _ _ _ _ (between_range _ _ _ 0 65535 hx.1 hx.2 (lat_range _ _ _ _) (lat_range _ _ _ _)) (between_range _ _ _ 0 65535 hx.1 hx.2 (lat_range _ _ _ _) (lat_range _ _ _ _)) h0 h1
theorem flatAt_next_x (seed stage cx cz tz : Int) (h : wrap64 (cx + 1) = cx + 1) : flatAt seed stage (cx + 1) cz 0 tz = flatAt seed stage cx cz 65536 tz := by
  unfold flatAt
  rw [between_zero, between_zero, between_one, between_one, h]
theorem flatAt_next_z (seed stage cx cz tx : Int) (h : wrap64 (cz + 1) = cz + 1) : flatAt seed stage cx (cz + 1) tx 0 = flatAt seed stage cx cz tx 65536 := by
  unfold flatAt
  rw [between_zero, between_one, h]
theorem cell_near (v : Int) (n : Nat) (hv : -9223372036854775807 ≤ v ∧ v ≤ 9223372036854775806) : wrap64 (cell v n + 1) = cell v n + 1 := by
  apply IntWalk.wrap64_in
  unfold cell
  have hp := side_pos n
  rcases Int.le_total 0 v with h0 | h0
  · have a := Int.ediv_nonneg h0 (show 0 ≤ side n by omega)
    have b := Int.ediv_le_self (side n) h0
    omega
  · have b : v / side n ≤ 0 := by
      have := Int.ediv_le_ediv (show 0 < side n by omega) h0
      simpa using this
    have c : v ≤ v / side n := by
      rw [Int.le_ediv_iff_mul_le (by omega)]
      have := Int.mul_le_mul_of_nonpos_left h0 hp
      omega
    omega
theorem slope_x (seed stage x z : Int) (n : Nat) (hn : n ≤ 20) (hx : -9223372036854775807 ≤ x ∧ x ≤ 9223372036854775806) :
    flat seed stage (x + 1) z n ≤ flat seed stage x z n + most n ∧ flat seed stage x z n ≤ flat seed stage (x + 1) z n + most n := by
  obtain ⟨u, h0, h1, _, h⟩ := step_of x n hn
  have k := flatAt_along_x seed stage (cell x n) (cell z n) (tval x n) u (tval z n) (most n) (tval_range _ _) h0 h1
  unfold flat
  rcases h with ⟨e1, e2⟩ | ⟨e1, e2, e3⟩
  · rw [e1, e2]; exact k
  · rw [e1, e2, flatAt_next_x _ _ _ _ _ (cell_near x n hx), ← e3]; exact k
theorem slope_z (seed stage x z : Int) (n : Nat) (hn : n ≤ 20) (hz : -9223372036854775807 ≤ z ∧ z ≤ 9223372036854775806) :
    flat seed stage x (z + 1) n ≤ flat seed stage x z n + most n ∧ flat seed stage x z n ≤ flat seed stage x (z + 1) n + most n := by
  obtain ⟨u, h0, h1, _, h⟩ := step_of z n hn
  have k := flatAt_along_z seed stage (cell x n) (cell z n) (tval x n) (tval z n) u (most n) (tval_range _ _) h0 h1
  unfold flat
  rcases h with ⟨e1, e2⟩ | ⟨e1, e2, e3⟩
  · rw [e1, e2]; exact k
  · rw [e1, e2, flatAt_next_z _ _ _ _ _ (cell_near z n hz), ← e3]; exact k

theorem times_range (x : Int) (n : Nat) (hn : n ≤ 20) (hx : -1099511627776 ≤ x ∧ x ≤ 1099511627776) : -1152921504606846976 ≤ x * 2 ^ n ∧ x * 2 ^ n ≤ 1152921504606846976 := by
  have p := pow_range n hn
  have a : x * 2 ^ n ≤ 1099511627776 * 2 ^ n := Int.mul_le_mul_of_nonneg_right hx.2 (by omega)
  have b : -1099511627776 * 2 ^ n ≤ x * 2 ^ n := Int.mul_le_mul_of_nonneg_right hx.1 (by omega)
  omega
theorem most_range (n : Nat) : 0 ≤ (98304 : Int) / 2 ^ n ∧ (98304 : Int) / 2 ^ n ≤ 98304 :=
  ⟨Int.ediv_nonneg (by decide) (Int.le_of_lt (Int.pow_pos (by decide))), Int.ediv_le_self _ (by decide)⟩
theorem oct_succ (seed stage x z s : Int) (k : Nat) (hk : k ≤ 7) : oct seed stage x z s k ≤ oct seed stage x z s (k + 1) ∧ oct seed stage x z s (k + 1) ≤ oct seed stage x z s k + 65536 / 2 ^ (k + 1) := by
  have p := part_range seed (wrap64 (stage + 100 * k)) x z (s - k) k
  have q : (65535 : Int) / 2 ^ (k + 1) ≤ 65536 / 2 ^ (k + 1) := Int.ediv_le_ediv (Int.pow_pos (by decide)) (by decide)
  simp only [oct]
  omega
theorem oct_one (seed stage x z s : Int) (h : I stage) : oct seed stage x z s 1 = flat seed stage x z s / 2 := by
  unfold I at h
  have e : wrap64 (stage + 100 * ((0 : Nat) : Int)) = stage := IntWalk.wrap64_in _ (by omega) |>.trans (by omega)
  simp only [oct, e]
  have e2 : s - ((0 : Nat) : Int) = s := by omega
  rw [e2]; simp
theorem quot_near (x : Int) (n : Nat) (hx : -1099511627776 ≤ x ∧ x ≤ 1099511627776) : -1099511627776 ≤ x / 2 ^ n ∧ x / 2 ^ n ≤ 1099511627776 := by
  have hp : (1 : Int) ≤ 2 ^ n := Int.pow_pos (by decide)
  rcases Int.le_total 0 x with h0 | h0
  · have a := Int.ediv_nonneg h0 (show 0 ≤ (2 : Int) ^ n by omega)
    have b := Int.ediv_le_self ((2 : Int) ^ n) h0
    omega
  · have b : x / 2 ^ n ≤ 0 := by
      have := Int.ediv_le_ediv (show 0 < (2 : Int) ^ n by omega) h0
      simpa using this
    have c : x ≤ x / 2 ^ n := by
      rw [Int.le_ediv_iff_mul_le (by omega)]
      have := Int.mul_le_mul_of_nonpos_left h0 hp
      omega
    omega
theorem flat_seen (seed stage x z : Int) (n : Nat) (lo hi : Int) (hx : -9223372036854775807 ≤ x ∧ x ≤ 9223372036854775806) (hz : -9223372036854775807 ≤ z ∧ z ≤ 9223372036854775806)
    (h0 : lo ≤ lat seed stage (x / 2 ^ n) (z / 2 ^ n) ∧ lat seed stage (x / 2 ^ n) (z / 2 ^ n) ≤ hi)
    (h1 : lo ≤ lat seed stage (x / 2 ^ n + 1) (z / 2 ^ n) ∧ lat seed stage (x / 2 ^ n + 1) (z / 2 ^ n) ≤ hi)
    (h2 : lo ≤ lat seed stage (x / 2 ^ n) (z / 2 ^ n + 1) ∧ lat seed stage (x / 2 ^ n) (z / 2 ^ n + 1) ≤ hi)
    (h3 : lo ≤ lat seed stage (x / 2 ^ n + 1) (z / 2 ^ n + 1) ∧ lat seed stage (x / 2 ^ n + 1) (z / 2 ^ n + 1) ≤ hi) :
    lo ≤ flat seed stage x z n ∧ flat seed stage x z n ≤ hi := by
  have ex := cell_near x n hx
  have ez := cell_near z n hz
  have cx : cell x n = x / 2 ^ n := by unfold cell; rw [side_nat]
  have cz : cell z n = z / 2 ^ n := by unfold cell; rw [side_nat]
  rw [← cx, ← cz] at h0 h1 h2 h3
  exact flat_corners seed stage x z n lo hi h0 (by rw [ex]; exact h1) (by rw [ez]; exact h2) (by rw [ex, ez]; exact h3)
end Oc
