/- The walks through streams. -/
import Derived.Test.YtjcbkchhafkffabRngLaw
namespace Go.Proofs.Ytjcbkchhafkffab
set_option linter.unusedVariables false
open Go.RowKit
set_option maxHeartbeats 400000
theorem rnew_any (seed stage x y z : Int) (h : Oc.U seed) (w : World) :
    Calls Try.prog 7 #[.int .u64 seed, .int .i64 stage, .int .i64 x, .int .i64 y, .int .i64 z] w fun e w' => ∃ b, e = .returned (.pointer (some ⟨b, 0, none⟩)) ∧ w.heap.size ≤ b ∧ b < w'.heap.size ∧ Str w' b (Oc.hash seed stage x y z) 0 ∧ Below w.heap.size w w' := by
  go_enter Try.func7, Try.ntmps7
  go_wp2_with (go_at_call 16; refine (rhash_any _ _ _ _ _ h _).mono ?_; rintro e w1 ⟨rfl, hb⟩)
  go_ret
  have hz := hb.size
  refine ⟨w1.heap.size, rfl, hz, by simp, ⟨by go_simp, by go_simp, by go_simp⟩, hb.alloc hz _⟩
theorem rnext_any (b : Nat) (key c : Int) (w : World) (hs : Str w b key c) :
    Calls Try.prog 9 #[.pointer (some ⟨b, 0, none⟩)] w fun e w' => e = .returned (.int .u64 (Oc.drawn key (IntKind.u64.wrap (c + 1)))) ∧ Str w' b key (IntKind.u64.wrap (c + 1)) ∧ w.grownBy w' (some b) := by
  obtain ⟨h0, h1, hf⟩ := hs
  go_enter Try.func9, Try.ntmps9
  go_wp2_with fail
  go_quiet ((go_at_call 17; exact Oc.quiet_left (rmix_any _ (Oc.wrap_U _) _)))
  go_wp2
  go_ret
  refine ⟨rfl, ⟨?_, ?_, ?_⟩, Oc.only_drewN (Oc.only_setCell (Oc.only_refl _ _) (.inl rfl) _) _⟩
  · go_simp
  · go_simp
  · go_simp
theorem fbelow_any (b : Nat) (key c n : Int) (w : World) (hs : Str w b key c) :
    Calls Try.prog 18 #[.func (.func 8) #[.pointer (some ⟨b, 0, none⟩)] #[], .int .i64 n] w fun e w' => e = .returned (.int .i64 (Oc.belowG (Oc.drawn key (IntKind.u64.wrap (c + 1))) n)) ∧ Str w' b key (IntKind.u64.wrap (c + 1)) ∧ w.grownBy w' (some b) := by
  go_enter Try.func18, Try.ntmps18
  go_wp2_with fail
  refine (next_any _ _ _ _ hs).mono ?_
  rintro e w1 ⟨rfl, hs1, hg⟩
  go_wp2_with fail
  refine (below_any _ _ (Oc.mix_U _) _).mono ?_
  rintro e w2 ⟨rfl, rfl⟩
  go_wp2_with fail
  go_ret
  exact ⟨rfl, hs1, hg⟩
theorem sbelow_any (b : Nat) (key c n : Int) (w : World) (hs : Str w b key c) :
    Calls Try.prog 10 #[.pointer (some ⟨b, 0, none⟩), .int .i64 n] w fun e w' => e = .returned (.int .i64 (Oc.belowG (Oc.drawn key (IntKind.u64.wrap (c + 1))) n)) ∧ Str w' b key (IntKind.u64.wrap (c + 1)) ∧ w.grownBy w' (some b) := by
  go_enter Try.func10, Try.ntmps10
  go_wp2_with fail
  refine (fbelow_any _ _ _ _ _ hs).mono ?_
  rintro e w1 ⟨rfl, hs1, hg⟩
  go_wp2_with fail
  go_ret
  exact ⟨rfl, hs1, hg⟩
theorem rsbelow_any (b : Nat) (key c n : Int) (w : World) (hs : Str w b key c) :
    Calls Try.prog 11 #[.pointer (some ⟨b, 0, none⟩), .int .i64 n] w fun e w' => e = .returned (.int .i64 (Oc.belowG (Oc.drawn key (IntKind.u64.wrap (c + 1))) n)) ∧ Str w' b key (IntKind.u64.wrap (c + 1)) ∧ w.grownBy w' (some b) := by
  go_enter Try.func11, Try.ntmps11
  go_wp2_with fail
  refine (rnext_any _ _ _ _ hs).mono ?_
  rintro e w1 ⟨rfl, hs1, hg⟩
  go_wp2_with fail
  refine (rbelow_any _ _ (Oc.mix_U _) _).mono ?_
  rintro e w2 ⟨rfl, rfl⟩
  go_wp2_with fail
  go_ret
  exact ⟨rfl, hs1, hg⟩
end Go.Proofs.Ytjcbkchhafkffab
