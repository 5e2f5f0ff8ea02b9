/- The mixing is turned back; places that differ in one have unlike numbers; numbers below: plain Lean, no program in sight. -/
import Derived.Test.YtjcbkchhafkffabRngPlain
namespace Oc
set_option linter.unusedVariables false
open Go

/-- One turn by what was halved n times, and it undone (three rounds). -/
def turnN (n X : Nat) : Nat := X ^^^ X / 2 ^ n
def undoN (n X : Nat) : Nat := X ^^^ (X ^^^ (X ^^^ X / 2 ^ n) / 2 ^ n) / 2 ^ n

theorem half_xor (a b n : Nat) : (a ^^^ b) / 2 ^ n = a / 2 ^ n ^^^ b / 2 ^ n := by
  rw [← Nat.shiftRight_eq_div_pow, ← Nat.shiftRight_eq_div_pow, ← Nat.shiftRight_eq_div_pow, Nat.shiftRight_xor_distrib]
theorem xor_back (a b : Nat) : a ^^^ (a ^^^ b) = b := by rw [← Nat.xor_assoc, Nat.xor_self, Nat.zero_xor]
theorem four_gone (X n : Nat) (hX : X < 2 ^ 64) (hn : 16 ≤ n) : X / 2 ^ n / 2 ^ n / 2 ^ n / 2 ^ n = 0 := by
  rw [Nat.div_div_eq_div_mul, Nat.div_div_eq_div_mul, Nat.div_div_eq_div_mul, ← Nat.pow_add, ← Nat.pow_add, ← Nat.pow_add]
  exact Nat.div_eq_of_lt (Nat.lt_of_lt_of_le hX (Nat.pow_le_pow_right (by decide) (by omega)))
theorem undo_turn (n X : Nat) (hX : X < 2 ^ 64) (hn : 16 ≤ n) : undoN n (turnN n X) = X := by
  unfold undoN turnN
  have z := four_gone X n hX hn
  simp only [half_xor]
  generalize X / 2 ^ n = a at *
  generalize a / 2 ^ n = b at *
  generalize b / 2 ^ n = c at *
  rw [z]
  simp only [Nat.xor_assoc, Nat.xor_zero]
  simp only [Nat.xor_self, Nat.xor_zero]
theorem turn_undo (n X : Nat) (hX : X < 2 ^ 64) (hn : 16 ≤ n) : turnN n (undoN n X) = X := by
  unfold undoN turnN
  have z := four_gone X n hX hn
  simp only [half_xor]
  generalize X / 2 ^ n = a at *
  generalize a / 2 ^ n = b at *
  generalize b / 2 ^ n = c at *
  rw [z]
  simp only [Nat.xor_zero, Nat.xor_assoc]
  rw [show a ^^^ (b ^^^ (c ^^^ (a ^^^ (b ^^^ c)))) = 0 from ?_, Nat.xor_zero]
  have e : a ^^^ (b ^^^ c) = b ^^^ (c ^^^ a) := by rw [Nat.xor_comm a, Nat.xor_assoc]
  rw [e, ← Nat.xor_assoc b c, ← Nat.xor_assoc b c, xor_back, Nat.xor_self]
theorem turn_lt (n X : Nat) (hX : X < 2 ^ 64) : turnN n X < 2 ^ 64 := Nat.xor_lt_two_pow hX (Nat.lt_of_le_of_lt (Nat.div_le_self _ _) hX)
theorem undo_lt (n X : Nat) (hX : X < 2 ^ 64) : undoN n X < 2 ^ 64 := by
  unfold undoN
  have d := fun Y (h : Y < 2 ^ 64) => Nat.lt_of_le_of_lt (Nat.div_le_self Y (2 ^ n)) h
  exact Nat.xor_lt_two_pow hX (d _ (Nat.xor_lt_two_pow hX (d _ (Nat.xor_lt_two_pow hX (d _ hX)))))

/-! ### The same over Int, as the walk spells it -/
def und (p x : Int) : Int := bits .xor .u64 x (bits .xor .u64 x (bits .xor .u64 x (x / p) / p) / p)
def inv1 : Int := 10871156337175269513
def inv2 : Int := 3573116690164977347
def unmix (x : Int) : Int := und 1073741824 (IntKind.u64.wrap (und 134217728 (IntKind.u64.wrap (und 2147483648 x * inv2)) * inv1))

theorem U_nat {x : Int} (h : U x) : ∃ X : Nat, x = X ∧ X < 2 ^ 64 := by
  unfold U at h
  exact ⟨x.toNat, by omega, by omega⟩
theorem nat_U {X : Nat} (h : X < 2 ^ 64) : U (X : Int) := by unfold U; omega
theorem turn_int (X n : Nat) (p : Int) (hp : p = ((2 ^ n : Nat) : Int)) (hX : X < 2 ^ 64) : bits .xor .u64 (X : Int) ((X : Int) / p) = (turnN n X : Nat) := by
  subst hp
  exact xorShift_u64 X (2 ^ n) hX
theorem und_int (X n : Nat) (p : Int) (hp : p = ((2 ^ n : Nat) : Int)) (hX : X < 2 ^ 64) : und p (X : Int) = (undoN n X : Nat) := by
  have d := fun Y (h : Y < 2 ^ 64) => Nat.lt_of_le_of_lt (Nat.div_le_self Y (2 ^ n)) h
  unfold und undoN
  rw [turn_int X n p hp hX]
  have h1 := turn_lt n X hX
  unfold turnN at *
  subst hp
  rw [← Int.natCast_ediv, bits_xor_u64_nat X _ hX (d _ h1), ← Int.natCast_ediv, bits_xor_u64_nat X _ hX (d _ (Nat.xor_lt_two_pow hX (d _ h1)))]
theorem wrap_times (X c : Nat) : IntKind.u64.wrap ((X : Int) * (c : Int)) = ((X * c % 2 ^ 64 : Nat) : Int) := by
  rw [IntKind.wrap_u64]; simp [Int.natCast_emod]
def oneN : Nat := 13787848793156543929
def twoN : Nat := 10723151780598845931
def inv1N : Nat := 10871156337175269513
def inv2N : Nat := 3573116690164977347
def mixN (X : Nat) : Nat := turnN 31 (turnN 27 (turnN 30 X * oneN % 2 ^ 64) * twoN % 2 ^ 64)
def unmixN (X : Nat) : Nat := undoN 30 (undoN 27 (undoN 31 X * inv2N % 2 ^ 64) * inv1N % 2 ^ 64)
theorem mod_lt (X : Nat) : X % 2 ^ 64 < 2 ^ 64 := Nat.mod_lt _ (by decide)
theorem mix_nat (X : Nat) (hX : X < 2 ^ 64) : mix (X : Int) = (mixN X : Nat) := by
  have a : mixA (X : Int) = ((turnN 30 X * oneN % 2 ^ 64 : Nat) : Int) := by
    unfold mixA
    rw [turn_int X 30 1073741824 (by decide) hX]
    exact wrap_times _ oneN
  have b : mixB (mixA (X : Int)) = ((turnN 27 (turnN 30 X * oneN % 2 ^ 64) * twoN % 2 ^ 64 : Nat) : Int) := by
    rw [a]; unfold mixB
    rw [turn_int _ 27 134217728 (by decide) (mod_lt _)]
    exact wrap_times _ twoN
  unfold mix
  rw [b, turn_int _ 31 2147483648 (by decide) (mod_lt _)]
  rfl
theorem unmix_nat (X : Nat) (hX : X < 2 ^ 64) : unmix (X : Int) = (unmixN X : Nat) := by
  unfold unmix
  rw [und_int X 31 2147483648 (by decide) hX]
  rw [show IntKind.u64.wrap ((undoN 31 X : Nat) * inv2) = _ from wrap_times _ inv2N]
  rw [und_int _ 27 134217728 (by decide) (mod_lt _)]
  rw [show IntKind.u64.wrap ((undoN 27 (undoN 31 X * inv2N % 2 ^ 64) : Nat) * inv1) = _ from wrap_times _ inv1N]
  rw [und_int _ 30 1073741824 (by decide) (mod_lt _)]
  rfl
theorem times_back (X a b : Nat) (hX : X < 2 ^ 64) (h : a * b % 2 ^ 64 = 1) : X * a % 2 ^ 64 * b % 2 ^ 64 = X := by
  rw [Nat.mod_mul_mod, Nat.mul_assoc, Nat.mul_mod, h, Nat.mul_one, Nat.mod_mod, Nat.mod_eq_of_lt hX]
theorem unmix_mixN (X : Nat) (hX : X < 2 ^ 64) : unmixN (mixN X) = X := by
  unfold unmixN mixN
  rw [undo_turn 31 _ (mod_lt _) (by decide), times_back _ twoN inv2N (turn_lt 27 _ (mod_lt _)) (by decide)]
  rw [undo_turn 27 _ (mod_lt _) (by decide), times_back _ oneN inv1N (turn_lt 30 _ hX) (by decide)]
  exact undo_turn 30 X hX (by decide)
theorem mix_unmixN (X : Nat) (hX : X < 2 ^ 64) : mixN (unmixN X) = X := by
  unfold unmixN mixN
  rw [turn_undo 30 _ (mod_lt _) (by decide), times_back _ inv1N oneN (undo_lt 27 _ (mod_lt _)) (by decide)]
  rw [turn_undo 27 _ (mod_lt _) (by decide), times_back _ inv2N twoN (undo_lt 31 _ hX) (by decide)]
  exact turn_undo 31 X hX (by decide)
theorem unmix_mix (x : Int) (h : U x) : unmix (mix x) = x := by
  obtain ⟨X, rfl, hX⟩ := U_nat h
  rw [mix_nat X hX, unmix_nat (mixN X) (turn_lt 31 _ (mod_lt _)), unmix_mixN X hX]
theorem mix_unmix (x : Int) (h : U x) : mix (unmix x) = x := by
  obtain ⟨X, rfl, hX⟩ := U_nat h
  rw [unmix_nat X hX, mix_nat (unmixN X) (undo_lt 30 _ (mod_lt _)), mix_unmixN X hX]
theorem und_U (p x : Int) (h : U x) (hp : 1 ≤ p) : U (und p x) :=
  bits_xor_U _ _ h (div_U _ _ (bits_xor_U _ _ h (div_U _ _ (bits_xor_U _ _ h (div_U _ _ h hp)) hp)) hp)
theorem unmix_U (x : Int) : U (unmix x) := und_U _ _ (wrap_U _) (by decide)

/-! ### The inverse by halves of what is left -/
def invIt (a : Int) : Nat → Int
  | 0 => a
  | k + 1 => IntKind.u64.wrap (invIt a k * IntKind.u64.wrap (2 - IntKind.u64.wrap (a * invIt a k)))
theorem inv1_is : invIt 13787848793156543929 6 = inv1 := by decide +kernel
theorem inv2_is : invIt 10723151780598845931 6 = inv2 := by decide +kernel

/-! ### Unlike places, unlike numbers -/
theorem mix_inj (x y : Int) (hx : U x) (hy : U y) (h : mix x = mix y) : x = y := by
  rw [← unmix_mix x hx, ← unmix_mix y hy, h]
theorem wrap_plus_inj (x y c : Int) (hx : U x) (hy : U y) (h : IntKind.u64.wrap (x + c) = IntKind.u64.wrap (y + c)) : x = y := by
  rw [IntKind.wrap_u64, IntKind.wrap_u64] at h
  unfold U at hx hy
  omega
theorem xor_inj_left (a x y : Int) (ha : U a) (hx : U x) (hy : U y) (h : bits .xor .u64 a x = bits .xor .u64 a y) : x = y := by
  obtain ⟨A, rfl, hA⟩ := U_nat ha
  obtain ⟨X, rfl, hX⟩ := U_nat hx
  obtain ⟨Y, rfl, hY⟩ := U_nat hy
  rw [bits_xor_u64_nat A X hA hX, bits_xor_u64_nat A Y hA hY] at h
  have h' : A ^^^ X = A ^^^ Y := Int.ofNat.inj h
  have e : A ^^^ (A ^^^ X) = A ^^^ (A ^^^ Y) := by rw [h']
  rw [xor_back, xor_back] at e
  rw [e]
theorem xor_comm_int (a x : Int) (ha : U a) (hx : U x) : bits .xor .u64 a x = bits .xor .u64 x a := by
  obtain ⟨A, rfl, hA⟩ := U_nat ha
  obtain ⟨X, rfl, hX⟩ := U_nat hx
  rw [bits_xor_u64_nat A X hA hX, bits_xor_u64_nat X A hX hA, Nat.xor_comm]
theorem wrap_inj (x y : Int) (hx : I x) (hy : I y) (h : IntKind.u64.wrap x = IntKind.u64.wrap y) : x = y := by
  rw [IntKind.wrap_u64, IntKind.wrap_u64] at h
  unfold I at hx hy
  omega
theorem mstep_inj_n (h n m : Int) (hh : U h) (hn : I n) (hm : I m) (e : mstep h n = mstep h m) : n = m := by
  unfold mstep at e
  have a := mix_inj _ _ (wrap_U _) (wrap_U _) e
  have b := wrap_plus_inj _ _ _ (bits_xor_U _ _ hh (wrap_U _)) (bits_xor_U _ _ hh (wrap_U _)) a
  exact wrap_inj _ _ hn hm (xor_inj_left _ _ _ hh (wrap_U _) (wrap_U _) b)
theorem mstep_inj_h (h g n : Int) (hh : U h) (hg : U g) (e : mstep h n = mstep g n) : h = g := by
  unfold mstep at e
  have a := mix_inj _ _ (wrap_U _) (wrap_U _) e
  have b := wrap_plus_inj _ _ _ (bits_xor_U _ _ hh (wrap_U _)) (bits_xor_U _ _ hg (wrap_U _)) a
  rw [xor_comm_int _ _ hh (wrap_U _), xor_comm_int _ _ hg (wrap_U _)] at b
  exact xor_inj_left _ _ _ (wrap_U _) hh hg b
theorem mstep_U (h n : Int) : U (mstep h n) := mix_U _

/-! ### Numbers below another one -/
def below (h n : Int) : Int := h / 4294967296 * n / 4294967296
def belowG (h n : Int) : Int := if n < 1 ∨ 2147483647 < n then 0 else below h n
theorem high_range (h : Int) (hh : U h) : 0 ≤ h / 4294967296 ∧ h / 4294967296 ≤ 4294967295 := by unfold U at hh; omega
theorem below_range (h n : Int) (hh : U h) (hn : 1 ≤ n ∧ n ≤ 2147483647) : 0 ≤ below h n ∧ below h n < n := by
  unfold below
  have r := high_range h hh
  have a := Int.mul_nonneg r.1 (show 0 ≤ n by omega)
  have b : h / 4294967296 * n ≤ 4294967295 * n := Int.mul_le_mul_of_nonneg_right r.2 (by omega)
  omega
theorem belowG_range (h n : Int) (hh : U h) : 0 ≤ belowG h n ∧ (belowG h n < n ∨ belowG h n = 0) := by
  unfold belowG
  split
  · omega
  · have := below_range h n hh (by omega); omega
theorem below_mono (a b n : Int) (ha : U a) (hn : 1 ≤ n) (h : a ≤ b) : below a n ≤ below b n := by
  unfold below
  apply Int.ediv_le_ediv (by decide)
  exact Int.mul_le_mul_of_nonneg_right (Int.ediv_le_ediv (by decide) h) (by omega)
theorem belowG_mono (a b n : Int) (ha : U a) (h : a ≤ b) : belowG a n ≤ belowG b n := by
  unfold belowG
  split
  · omega
  · exact below_mono a b n ha (by omega) h
/-- Each number below n is made: by the least hash that reaches it. -/
def reach (k n : Int) : Int := (k * 4294967296 + n - 1) / n
theorem reach_range (k n : Int) (h0 : 0 ≤ k) (h1 : k < n) (hn : n ≤ 1048576) : 0 ≤ reach k n ∧ reach k n ≤ 4294967295 := by
  unfold reach
  refine ⟨Int.ediv_nonneg (by omega) (by omega), ?_⟩
  have : (k * 4294967296 + n - 1) / n < 4294967296 := by
    apply Int.ediv_lt_of_lt_mul (by omega)
    omega
  omega
theorem below_reach (k n : Int) (h0 : 0 ≤ k) (h1 : k < n) (hn : n ≤ 1048576) : belowG (reach k n * 4294967296) n = k := by
  unfold belowG below
  rw [if_neg (by omega), Int.mul_ediv_cancel _ (by decide)]
  unfold reach
  have e := Int.mul_ediv_add_emod (k * 4294967296 + n - 1) n
  have m0 := Int.emod_nonneg (k * 4294967296 + n - 1) (show n ≠ 0 by omega)
  have m1 := Int.emod_lt_of_pos (k * 4294967296 + n - 1) (show 0 < n by omega)
  rw [Int.mul_comm] at e
  omega
/-- The number of a stream that was asked c times. -/
def drawn (key c : Int) : Int := mix (IntKind.u64.wrap (key + IntKind.u64.wrap (c * 11400714819323198485)))
theorem mask32 (x : Int) (h : U x) : bits .and .u64 x 4294967295 = x % 4294967296 := by
  obtain ⟨X, rfl, hX⟩ := U_nat h
  have hm : (BitVec.ofInt 64 (4294967295 : Int)).toNat = 2 ^ 32 - 1 := by decide
  have hv : (BitVec.ofInt 64 (X : Int)).toNat = X := by
    rw [BitVec.ofInt_natCast, BitVec.toNat_ofNat]; exact Nat.mod_eq_of_lt hX
  show IntKind.u64.wrap ((BitVec.ofInt 64 (X : Int) &&& BitVec.ofInt 64 (4294967295 : Int)).toNat : Int) = _
  rw [BitVec.toNat_and, hm, hv, Nat.and_two_pow_sub_one_eq_mod, IntKind.wrap_u64]
  omega
end Oc
