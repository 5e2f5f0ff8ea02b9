/- What the smooth heights are, in plain Lean: no program in sight. -/
import Derived.Test.YtacdjinfalohnaaRngPlain
namespace Oc
set_option linter.unusedVariables false
open Go
open Go.RowKit (wrap64)

def clamp (v low high : Int) : Int := if v < low then low else min v high
def fadeC (c : Int) : Int := c * c * (196608 - 2 * c) / 4294967296
def fade (t : Int) : Int := fadeC (clamp t 0 65536)
def lat (seed stage x z : Int) : Int := hash seed stage x 0 z / 281474976710656
def between (a b t : Int) : Int := a + (b - a) * t / 65536
/-- The side of a cell. -/
def side (s : Int) : Int := 2 ^ s.toNat
def cell (v s : Int) : Int := v / side s
def frac (v s : Int) : Int := v % side s * 65536 / side s
def tval (v s : Int) : Int := fade (frac v s)
def flatAt (seed stage cx cz tx tz : Int) : Int :=
  between (between (lat seed stage cx cz) (lat seed stage (wrap64 (cx + 1)) cz) tx) (between (lat seed stage cx (wrap64 (cz + 1))) (lat seed stage (wrap64 (cx + 1)) (wrap64 (cz + 1))) tx) tz
def flat (seed stage x z s : Int) : Int := flatAt seed stage (cell x s) (cell z s) (tval x s) (tval z s)
def flatG (seed stage x z s : Int) : Int := if s < 0 ∨ 20 < s then 0 else flat seed stage x z s
/-- The sum of the first k heights. -/
def oct (seed stage x z s : Int) : Nat → Int
  | 0 => 0
  | k + 1 => oct seed stage x z s k + flat seed (wrap64 (stage + 100 * k)) x z (s - k) / 2 ^ (k + 1)
def octG (seed stage x z s many : Int) : Int := if many < 1 ∨ 8 < many ∨ s < many - 1 ∨ 20 < s then 0 else oct seed stage x z s many.toNat

theorem clamp_range (t : Int) : 0 ≤ clamp t 0 65536 ∧ clamp t 0 65536 ≤ 65536 := by unfold clamp; split <;> omega
theorem clamp_mono (t u : Int) (h : t ≤ u) : clamp t 0 65536 ≤ clamp u 0 65536 := by unfold clamp; split <;> split <;> omega
theorem clamp_id (t : Int) (h : 0 ≤ t) (h' : t ≤ 65536) : clamp t 0 65536 = t := by unfold clamp; split <;> omega

theorem sq_range (c : Int) (h0 : 0 ≤ c) (h1 : c ≤ 65536) : 0 ≤ c * c ∧ c * c ≤ 4294967296 := by
  refine ⟨Int.mul_nonneg h0 h0, ?_⟩
  have := Int.mul_le_mul h1 h1 h0 (by decide : (0 : Int) ≤ 65536)
  omega
theorem cube_range (c : Int) (h0 : 0 ≤ c) (h1 : c ≤ 65536) : 0 ≤ c * c * (196608 - 2 * c) ∧ c * c * (196608 - 2 * c) ≤ 844424930131968 := by
  have hs := sq_range c h0 h1
  refine ⟨Int.mul_nonneg hs.1 (by omega), ?_⟩
  have := Int.mul_le_mul hs.2 (show 196608 - 2 * c ≤ 196608 by omega) (by omega) (by decide : (0 : Int) ≤ 4294967296)
  omega

/-- G(d) - G(c), of c ≤ d. -/
theorem cube_diff (c d : Int) : d * d * (196608 - 2 * d) - c * c * (196608 - 2 * c) = (d - c) * (196608 * (d + c) - 2 * (d * d + d * c + c * c)) := by
  simp only [Int.mul_sub, Int.mul_add, Int.sub_mul, Int.mul_assoc]
  have e1 : d * (d * (2 * d)) = 2 * (d * (d * d)) := by rw [Int.mul_left_comm d 2 d, Int.mul_left_comm d 2]
  have e2 : c * (c * (2 * c)) = 2 * (c * (c * c)) := by rw [Int.mul_left_comm c 2 c, Int.mul_left_comm c 2]
  have e3 : d * (2 * (d * d)) = 2 * (d * (d * d)) := Int.mul_left_comm _ _ _
  have e4 : d * (2 * (d * c)) = 2 * (d * (d * c)) := Int.mul_left_comm _ _ _
  have e5 : d * (2 * (c * c)) = 2 * (d * (c * c)) := Int.mul_left_comm _ _ _
  have e6 : c * (2 * (d * d)) = 2 * (d * (d * c)) := by rw [Int.mul_left_comm c 2, Int.mul_comm c (d * d), Int.mul_assoc]
  have e7 : c * (2 * (d * c)) = 2 * (d * (c * c)) := by rw [Int.mul_left_comm c 2, Int.mul_left_comm c d]
  have e8 : c * (2 * (c * c)) = 2 * (c * (c * c)) := Int.mul_left_comm _ _ _
  have e9 : d * (196608 * d) = 196608 * (d * d) := Int.mul_left_comm _ _ _
  have e10 : c * (196608 * c) = 196608 * (c * c) := Int.mul_left_comm _ _ _
  have e11 : d * (196608 * c) = 196608 * (d * c) := Int.mul_left_comm _ _ _
  have e12 : c * (196608 * d) = 196608 * (d * c) := by rw [Int.mul_left_comm c 196608, Int.mul_comm c d]
  have e13 : d * (d * 196608) = 196608 * (d * d) := by rw [← Int.mul_assoc, Int.mul_comm (d * d)]
  have e14 : c * (c * 196608) = 196608 * (c * c) := by rw [← Int.mul_assoc, Int.mul_comm (c * c)]
  omega

theorem slope_range (c d : Int) (h0 : 0 ≤ c) (h1 : c ≤ d) (h2 : d ≤ 65536) :
    0 ≤ 196608 * (d + c) - 2 * (d * d + d * c + c * c) ∧ 196608 * (d + c) - 2 * (d * d + d * c + c * c) ≤ 6442450944 := by
  have a1 : d * d ≤ 65536 * d := Int.mul_le_mul_of_nonneg_right h2 (by omega)
  have a2 : d * c ≤ 65536 * c := Int.mul_le_mul_of_nonneg_right h2 h0
  have a3 : c * c ≤ 65536 * c := Int.mul_le_mul_of_nonneg_right (by omega) h0
  have a4 : c * c ≤ d * c := Int.mul_le_mul_of_nonneg_right h1 h0
  have b1 : 0 ≤ (d - c) * (d - c) := by
    rcases Int.le_total 0 (d - c) with h | h
    · exact Int.mul_nonneg h h
    · exact Int.mul_nonneg_of_nonpos_of_nonpos h h
  have b2 : 0 ≤ (65536 - (d + c)) * (65536 - (d + c)) := by
    rcases Int.le_total 0 (65536 - (d + c)) with h | h
    · exact Int.mul_nonneg h h
    · exact Int.mul_nonneg_of_nonpos_of_nonpos h h
  have c1 : (d - c) * (d - c) = d * d - 2 * (d * c) + c * c := by
    simp only [Int.mul_sub, Int.sub_mul]; rw [Int.mul_comm c d]; omega
  have c2 : (65536 - (d + c)) * (65536 - (d + c)) = 4294967296 - 131072 * (d + c) + (d * d + 2 * (d * c) + c * c) := by
    simp only [Int.mul_sub, Int.sub_mul, Int.mul_add, Int.add_mul]; rw [Int.mul_comm c d]; omega
  constructor <;> omega

theorem fadeC_mono (c d : Int) (h0 : 0 ≤ c) (h1 : c ≤ d) (h2 : d ≤ 65536) : fadeC c ≤ fadeC d := by
  unfold fadeC
  apply Int.ediv_le_ediv (by decide)
  have e := cube_diff c d
  have s := slope_range c d h0 h1 h2
  have := Int.mul_nonneg (show 0 ≤ d - c by omega) s.1
  omega
/-- One and a half times as steep at most. -/
theorem fadeC_steep (c d k : Int) (h0 : 0 ≤ c) (h1 : c ≤ d) (h2 : d ≤ 65536) (hk : 3 * (d - c) ≤ 2 * k) : fadeC d ≤ fadeC c + k + 1 := by
  unfold fadeC
  have e := cube_diff c d
  have s := slope_range c d h0 h1 h2
  have m := Int.mul_le_mul_of_nonneg_left s.2 (show 0 ≤ d - c by omega)
  omega
theorem fadeC_range (c : Int) (h0 : 0 ≤ c) (h1 : c ≤ 65536) : 0 ≤ fadeC c ∧ fadeC c ≤ 65536 := by
  have a := fadeC_mono 0 c (by decide) h0 h1
  have b := fadeC_mono c 65536 h0 h1 (by decide)
  have e0 : fadeC 0 = 0 := by decide
  have e1 : fadeC 65536 = 65536 := by decide
  omega
theorem fade_range (t : Int) : 0 ≤ fade t ∧ fade t ≤ 65536 := fadeC_range _ (clamp_range t).1 (clamp_range t).2
theorem fade_mono (t u : Int) (h : t ≤ u) : fade t ≤ fade u := fadeC_mono _ _ (clamp_range t).1 (clamp_mono t u h) (clamp_range u).2
theorem fade_zero : fade 0 = 0 := by decide

theorem lat_range (seed stage x z : Int) : 0 ≤ lat seed stage x z ∧ lat seed stage x z ≤ 65535 := by
  have := hash_U seed stage x 0 z
  unfold lat U at *
  omega

theorem scale_range (n t : Int) (ht0 : 0 ≤ t) (ht1 : t ≤ 65536) : (0 ≤ n → 0 ≤ n * t ∧ n * t ≤ 65536 * n) ∧ (n ≤ 0 → n * t ≤ 0 ∧ 65536 * n ≤ n * t) := by
  constructor
  · intro h
    have := Int.mul_le_mul_of_nonneg_left ht1 h
    exact ⟨Int.mul_nonneg h ht0, by omega⟩
  · intro h
    have a := Int.mul_nonneg (show 0 ≤ -n by omega) ht0
    have b := Int.mul_le_mul_of_nonneg_left ht1 (show 0 ≤ -n by omega)
    rw [Int.neg_mul] at a b
    omega
theorem between_range (a b t lo hi : Int) (ht0 : 0 ≤ t) (ht1 : t ≤ 65536) (ha : lo ≤ a ∧ a ≤ hi) (hb : lo ≤ b ∧ b ≤ hi) : lo ≤ between a b t ∧ between a b t ≤ hi := by
  unfold between
  have s := scale_range (b - a) t ht0 ht1
  rcases Int.le_total 0 (b - a) with h | h
  · have := s.1 h; omega
  · have := s.2 h; omega
theorem between_zero (a b : Int) : between a b 0 = a := by unfold between; simp
theorem between_one (a b : Int) : between a b 65536 = b := by unfold between; omega

theorem side_pos (s : Int) : 1 ≤ side s := by
  unfold side; exact Int.pow_pos (by decide)
theorem frac_range (v s : Int) : 0 ≤ frac v s ∧ frac v s ≤ 65535 := by
  have hp := side_pos s
  have m0 := Int.emod_nonneg v (show side s ≠ 0 by omega)
  have m1 := Int.emod_lt_of_pos v (show 0 < side s by omega)
  unfold frac
  refine ⟨Int.ediv_nonneg (by omega) (by omega), ?_⟩
  have : v % side s * 65536 / side s < 65536 := by
    apply Int.ediv_lt_of_lt_mul (by omega)
    have := Int.mul_lt_mul_of_pos_right m1 (show (0 : Int) < 65536 by decide)
    rw [Int.mul_comm 65536]
    omega
  omega
theorem tval_range (v s : Int) : 0 ≤ tval v s ∧ tval v s ≤ 65536 := fade_range _
theorem cell_range (v s : Int) (h : I v) : I (cell v s) := by
  unfold cell I at *
  have hp := side_pos s
  rcases Int.le_total 0 v with h0 | h0
  · have a := Int.ediv_nonneg h0 (show 0 ≤ side s by omega)
    have b := Int.ediv_le_self (side s) h0
    omega
  · have a : -v / side s ≤ -v := Int.ediv_le_self (side s) (by omega)
    have b : v / side s ≤ 0 := by
      have := Int.ediv_le_ediv (show 0 < side s by omega) h0
      simpa using this
    have c : v ≤ v / side s := by
      rw [Int.le_ediv_iff_mul_le (by omega)]
      have := Int.mul_le_mul_of_nonpos_left h0 hp
      omega
    omega
theorem flatAt_range (seed stage cx cz tx tz : Int) (hx : 0 ≤ tx ∧ tx ≤ 65536) (hz : 0 ≤ tz ∧ tz ≤ 65536) : 0 ≤ flatAt seed stage cx cz tx tz ∧ flatAt seed stage cx cz tx tz ≤ 65535 := by
  unfold flatAt
  have l := fun x z => lat_range seed stage x z
  exact between_range _ _ _ 0 65535 hz.1 hz.2 (between_range _ _ _ 0 65535 hx.1 hx.2 (l _ _) (l _ _)) (between_range _ _ _ 0 65535 hx.1 hx.2 (l _ _) (l _ _))
theorem flat_range (seed stage x z s : Int) : 0 ≤ flat seed stage x z s ∧ flat seed stage x z s ≤ 65535 := flatAt_range _ _ _ _ _ _ (tval_range _ _) (tval_range _ _)
theorem flatG_range (seed stage x z s : Int) : 0 ≤ flatG seed stage x z s ∧ flatG seed stage x z s ≤ 65535 := by
  unfold flatG; split
  · decide
  · exact flat_range _ _ _ _ _
/-- What is added lies between nought and its share. -/
theorem part_range (seed stage x z s : Int) (k : Nat) : 0 ≤ flat seed stage x z s / 2 ^ (k + 1) ∧ flat seed stage x z s / 2 ^ (k + 1) ≤ 65535 / 2 ^ (k + 1) := by
  have h := flat_range seed stage x z s
  have hp : (0 : Int) < 2 ^ (k + 1) := Int.pow_pos (by decide)
  exact ⟨Int.ediv_nonneg h.1 (by omega), Int.ediv_le_ediv hp h.2⟩
def octMost : Nat → Int
  | 0 => 0
  | k + 1 => octMost k + 65535 / 2 ^ (k + 1)
theorem oct_most (seed stage x z s : Int) (k : Nat) : 0 ≤ oct seed stage x z s k ∧ oct seed stage x z s k ≤ octMost k := by
  induction k with
  | zero => simp [oct, octMost]
  | succ k ih =>
    have p := part_range seed (wrap64 (stage + 100 * k)) x z (s - k) k
    simp only [oct, octMost]
    omega
theorem octMost_le (k : Nat) (hk : k ≤ 8) : octMost k ≤ 65280 := by
  rcases k with _ | _ | _ | _ | _ | _ | _ | _ | _ | k
  all_goals first | decide | omega
theorem oct_range (seed stage x z s : Int) (k : Nat) (hk : k ≤ 8) : 0 ≤ oct seed stage x z s k ∧ oct seed stage x z s k ≤ 65280 := by
  have a := oct_most seed stage x z s k
  have b := octMost_le k hk
  omega
theorem octG_range (seed stage x z s many : Int) : 0 ≤ octG seed stage x z s many ∧ octG seed stage x z s many ≤ 65535 := by
  unfold octG; split
  · decide
  · have := oct_range seed stage x z s many.toNat (by omega); omega

/-! ### Go's own division, and what the document's makes of it -/
theorem div_parts (a b : Int) (hb : 1 ≤ b) : (¬ a.tmod b < 0 → a.tdiv b = a / b ∧ a.tmod b = a % b) ∧ (a.tmod b < 0 → a.tdiv b - 1 = a / b ∧ a.tmod b + b = a % b) := by
  have e := Int.mul_tdiv_add_tmod a b
  have r0 : a.tmod b < b := Int.tmod_lt_of_pos a (by omega)
  have r1 : -b < a.tmod b := by
    have := Int.tmod_lt_of_pos (-a) (show 0 < b by omega)
    rw [Int.neg_tmod] at this
    omega
  have u := fun (q r : Int) (h : b * q + r = a) (h0 : 0 ≤ r) (h1 : r < b) => (Int.ediv_emod_unique (a := a) (b := b) (r := r) (q := q) (by omega)).2 ⟨by omega, h0, h1⟩
  constructor
  · intro h
    have := u (a.tdiv b) (a.tmod b) e (by omega) r0
    omega
  · intro h
    have := u (a.tdiv b - 1) (a.tmod b + b) (by rw [Int.mul_sub]; omega) (by omega) (by omega)
    omega
theorem quot_range (a b : Int) (hb : 1 ≤ b) (ha : I a) : -9223372036854775808 ≤ a / b ∧ a / b ≤ 9223372036854775807 := by
  unfold I at ha
  rcases Int.le_total 0 a with h0 | h0
  · have x := Int.ediv_nonneg h0 (show 0 ≤ b by omega)
    have y := Int.ediv_le_self b h0
    omega
  · have y : a / b ≤ 0 := by
      have := Int.ediv_le_ediv (show 0 < b by omega) h0
      simpa using this
    have c : a ≤ a / b := by
      rw [Int.le_ediv_iff_mul_le (by omega)]
      have := Int.mul_le_mul_of_nonpos_left h0 hb
      omega
    omega

/-! ### A mask of ones is a remainder -/
theorem pow_range (n : Nat) (hn : n ≤ 20) : 1 ≤ (2 : Int) ^ n ∧ (2 : Int) ^ n ≤ 1048576 := by
  refine ⟨Int.pow_pos (by decide), ?_⟩
  have h := Nat.pow_le_pow_right (n := 2) (by decide) hn
  have e : ((2 ^ n : Nat) : Int) = (2 : Int) ^ n := by norm_cast
  rw [← e]
  exact Int.ofNat_le.2 (Nat.le_trans h (by decide))
theorem mask_mod (v : Int) (n : Nat) (hn : n ≤ 20) : bits .and .i64 v ((2 : Int) ^ n - 1) = v % 2 ^ n := by
  have p := pow_range n hn
  have e : ((2 ^ n : Nat) : Int) = (2 : Int) ^ n := by norm_cast
  have pn : 1 ≤ 2 ^ n ∧ 2 ^ n ≤ 1048576 := by rw [← e] at p; omega
  have em : (2 : Int) ^ n - 1 = ((2 ^ n - 1 : Nat) : Int) := by omega
  have hm : (BitVec.ofInt 64 ((2 : Int) ^ n - 1)).toNat = 2 ^ n - 1 := by
    rw [em, BitVec.ofInt_natCast, BitVec.toNat_ofNat]; exact Nat.mod_eq_of_lt (by omega)
  have hv : (BitVec.ofInt 64 v).toNat = (v % 18446744073709551616).toNat := by
    rw [BitVec.toNat_ofInt]; rfl
  show IntKind.i64.wrap ((BitVec.ofInt 64 v &&& BitVec.ofInt 64 ((2 : Int) ^ n - 1)).toNat : Int) = _
  rw [BitVec.toNat_and, hm, hv, Nat.and_two_pow_sub_one_eq_mod]
  have hd : (2 : Int) ^ n ∣ 18446744073709551616 := by
    have : (18446744073709551616 : Int) = 2 ^ n * 2 ^ (64 - n) := by
      rw [← Int.pow_add, show n + (64 - n) = 64 by omega]; decide
    exact ⟨_, this⟩
  have h1 : (((v % 18446744073709551616).toNat % 2 ^ n : Nat) : Int) = v % 2 ^ n := by
    rw [Int.natCast_emod, Int.toNat_of_nonneg (Int.emod_nonneg _ (by decide)), e]
    exact Int.emod_emod_of_dvd v hd
  rw [h1]
  have b0 := Int.emod_nonneg v (show (2 : Int) ^ n ≠ 0 by omega)
  have b1 := Int.emod_lt_of_pos v (show 0 < (2 : Int) ^ n by omega)
  exact IntWalk.i64_in _ (by omega)
theorem side_nat (n : Nat) : side (n : Int) = 2 ^ n := by unfold side; simp
theorem frac_walk (v : Int) (n : Nat) (hn : n ≤ 20) : wrap64 (bits .and .i64 v (wrap64 (wrap64 (2 ^ n) - 1)) * 65536) / 2 ^ n = frac v n := by
  have p := pow_range n hn
  rw [show wrap64 ((2 : Int) ^ n) = 2 ^ n from IntWalk.wrap64_in _ (by omega), show wrap64 ((2 : Int) ^ n - 1) = 2 ^ n - 1 from IntWalk.wrap64_in _ (by omega), mask_mod v n hn]
  have b0 := Int.emod_nonneg v (show (2 : Int) ^ n ≠ 0 by omega)
  have b1 := Int.emod_lt_of_pos v (show 0 < (2 : Int) ^ n by omega)
  rw [IntWalk.wrap64_in _ (by omega)]
  unfold frac; rw [side_nat]
theorem row_range (seed stage a b c d v s : Int) : 0 ≤ between (lat seed stage a b) (lat seed stage c d) (tval v s) ∧ between (lat seed stage a b) (lat seed stage c d) (tval v s) ≤ 65535 :=
  between_range _ _ _ 0 65535 (tval_range _ _).1 (tval_range _ _).2 (lat_range _ _ _ _) (lat_range _ _ _ _)
theorem share_le (k : Nat) : (65535 : Int) / 2 ^ (k + 1) ≤ 65535 := Int.ediv_le_self _ (by decide)
theorem side_zero : side ((0 : Nat) : Int) = 1 := by rw [side_nat]; rfl
theorem side_succ (k : Nat) : side ((k + 1 : Nat) : Int) = side (k : Int) * 2 := by rw [side_nat, side_nat, Int.pow_succ]
theorem side_le (k : Nat) (h : k ≤ 20) : side (k : Int) ≤ 1048576 := by rw [side_nat]; exact (pow_range k h).2
theorem mod_range (x s : Int) : 0 ≤ x % side s ∧ x % side s < side s :=
  ⟨Int.emod_nonneg x (by have := side_pos s; omega), Int.emod_lt_of_pos x (by have := side_pos s; omega)⟩
/-- Twos, one power higher than the count. -/
def half (k : Nat) : Int := 2 ^ (k + 1)
theorem half_zero : half 0 = 2 := rfl
theorem half_succ (k : Nat) : half (k + 1) = half k * 2 := by unfold half; rw [Int.pow_succ]
theorem half_range (k : Nat) (h : k ≤ 8) : 2 ≤ half k ∧ half k ≤ 512 := by
  rcases k with _ | _ | _ | _ | _ | _ | _ | _ | _ | k
  all_goals first | decide | omega
end Oc
