/- What the mixing of numbers computes, in plain Lean: no program in sight. -/
import Derived.Test.YtacdjinfalohnaaWords
import Derived.Laws.Bits64
namespace Oc
set_option linter.unusedVariables false
open Go

def mixA (x : Int) : Int := IntKind.u64.wrap (bits .xor .u64 x (x / 1073741824) * 13787848793156543929)
def mixB (x : Int) : Int := IntKind.u64.wrap (bits .xor .u64 x (x / 134217728) * 10723151780598845931)
def mix (x : Int) : Int := bits .xor .u64 (mixB (mixA x)) (mixB (mixA x) / 2147483648)
def mstep (h n : Int) : Int := mix (IntKind.u64.wrap (bits .xor .u64 h (IntKind.u64.wrap n) + 11400714819323198485))
def hash (seed stage x y z : Int) : Int := mstep (mstep (mstep (mstep (mix seed) stage) x) y) z

theorem wrap_U (n : Int) : U (IntKind.u64.wrap n) := by
  unfold U; rw [IntKind.wrap_u64]; omega
theorem bits_xor_nat (a b : Int) (ha : U a) (hb : U b) : bits .xor .u64 a b = ((a.toNat ^^^ b.toNat : Nat) : Int) := by
  unfold U at ha hb
  obtain ⟨m, rfl⟩ := Int.eq_ofNat_of_zero_le ha.1
  obtain ⟨n, rfl⟩ := Int.eq_ofNat_of_zero_le hb.1
  exact bits_xor_u64_nat m n (by omega) (by omega)
theorem bits_xor_U (a b : Int) (ha : U a) (hb : U b) : U (bits .xor .u64 a b) := by
  rw [bits_xor_nat a b ha hb]
  have : a.toNat ^^^ b.toNat < 2 ^ 64 := Nat.xor_lt_two_pow (by unfold U at ha; omega) (by unfold U at hb; omega)
  unfold U; omega
theorem div_U (x k : Int) (hx : U x) (hk : 1 ≤ k) : U (x / k) := by
  unfold U at *
  exact ⟨Int.ediv_nonneg hx.1 (by omega), Int.lt_of_le_of_lt (Int.ediv_le_self _ hx.1) hx.2⟩
theorem mix_U (x : Int) : U (mix x) := by
  unfold mix
  exact bits_xor_U _ _ (wrap_U _) (div_U _ _ (wrap_U _) (by decide))
theorem hash_U (seed stage x y z : Int) : U (hash seed stage x y z) := mix_U _
end Oc
