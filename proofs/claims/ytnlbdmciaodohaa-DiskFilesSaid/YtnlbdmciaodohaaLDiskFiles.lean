/- The law DiskFiles: for every input the call returns true, and each argument reads as it did. No condition. (The row out of the walk; the frame is the guide's template.) -/
import Derived.Test.YtnlbdmciaodohaaRows
import Derived.Test.YtnlbdmciaodohaaDiskFl
import Derived.WalkKit
import Derived.ProofKit
import Derived.OpenShut
import Derived.ShutString
import Derived.ChangeOld
import Derived.Below
import Derived.Lib.SmallJoins
namespace Go.Proofs.Ytnlbdmciaodohaa.lDiskFiles
open Go.ChangeShapes Go.WideShapes Go.ChangeAt Go.RowKit
open Go.ChangeMaps (open_string shut_string)
set_option linter.unusedVariables false

theorem own : ownKnob Try.prog.godebug = none := by kernel_rfl
theorem laidOut : laidOutB Try.prog = true := by kernel_rfl

set_option maxRecDepth 100000 in
theorem lifted (os : Os) (started : os.Started) (H : Type) (enc : TypeId × Value → H) :
    ReturnsInHanded {} Try.checked os 5 .any (Rows.diskFilesSpec.pre6 enc Try.prog Try.f5 Rows.diskFilesRow.domain false) (Rows.diskFilesSpec.post enc Try.prog Try.f5 false true false false) := by
  refine returnsInHanded_of_change (C := Try.checked) own started (by kernel_rfl) Try.func5
    (ChangeSpec.witness6 (enc := enc) (C := Try.checked) false ⟨#[], #[.slice none 0 0, .agg #[.int .i64 0, .int .i64 0, .int .i64 0]], []⟩ 8 (by kernel_rfl) (by kernel_rfl) (by kernel_rfl) (by kernel_rfl)) ?_
  intro W base args ds gs before hval0 hW hcnd hsz
  have hval : ∀ (j : Nat) t v, Try.f5.params[j]? = some t → args[j]? = some v → Value.okWide Try.prog W .any base t v := hval0
  have hW' := hW
  obtain ⟨p, q, hA0, hV, rfl, hfz, hnd⟩ := hW
  have hA : DataW.TrodAll enc Try.prog W 0 (fun _ => true) true Try.f5.params.toList args.toList ds p := hA0
  rw [Try.params5] at hA hval
  obtain ⟨v0, vs0, d0, ds0, p0, q0, hargs, rfl, rfl, h0, r0⟩ := trodAll_cons hA
  obtain ⟨v1, vs1, d1, ds1, p1, q1, rfl, rfl, rfl, h1, r1⟩ := trodAll_cons r0
  obtain ⟨rfl, rfl, rfl⟩ := trodAll_nil r1
  obtain rfl : args = #[v0, v1] := by cases args; simp_all
  obtain ⟨rfl, rfl⟩ := trodVars_none hV
  obtain ⟨a0, len0, cap0, rfl⟩ := okWide_slice Try.underlying22 (hval 0 22 v0 rfl rfl)
  have k0 := h0
  have lt0 : ∀ x ∈ p0, x.block < W.heap.size := by obtain ⟨m, hm⟩ := k0; exact DataW.trod_lt m _ _ _ hm
  have w0 : Oc.IsStructs [.int .i64, .int .i64, .int .i64, .int .i64, .int .i64, .row .u8] W a0 len0 cap0 := by
    obtain ⟨fuel, hf⟩ := h0
    exact Oc.open_structs (d := 12) Try.underlying22 (by kernel_rfl) (by kernel_rfl) rfl hf
  obtain ⟨c1a, c1b, c1c, y1a, y1b, y1c, m1, rfl, rfl, rfl, hy1a, hy1b, hy1c⟩ := Joins.open_agg3 Try.underlying30 (by kernel_rfl) (by kernel_rfl) (hval 1 30 v1 rfl rfl) h1
  obtain ⟨a1a, e1a, rfl, w1a⟩ := DataW.trod_int Try.underlying3 hy1a
  obtain ⟨a1b, e1b, rfl, w1b⟩ := DataW.trod_int Try.underlying3 hy1b
  obtain ⟨a1c, e1c, rfl, w1c⟩ := DataW.trod_int Try.underlying3 hy1c
  simp at e1a e1b e1c
  subst e1a e1b e1c
  clear hA0 hval0
  refine (diskFiles_true a0 len0 cap0 a1a a1b a1c W w0 (Oc.I_of w1a) (Oc.I_of w1b) (Oc.I_of w1c)).mono fun e W' ⟨he, bel⟩ => ?_
  subst he
  exact ⟨_, rfl, _, _, _, [], _, [], hW', trodAll_mk1 (shut_bool Try.underlying4 _), (trodAll_cons_mk (Below.trod laidOut (by kernel_rfl) (of_decide_eq_true (by kernel_rfl)) k0 bel lt0) (trodAll_cons_mk (Joins.shut_agg3 (y0 := (.lit (.int .i64 a1a), [])) (y1 := (.lit (.int .i64 a1b), [])) (y2 := (.lit (.int .i64 a1c), [])) Try.underlying30 (by kernel_rfl) (by kernel_rfl) (shut_int Try.underlying3 w1a) (shut_int Try.underlying3 w1b) (shut_int Try.underlying3 w1c)) trodAll_mk0)), rfl, bel.frame _, fun h => by cases h⟩

theorem over : Rows.diskFilesRow.holds Try.pinned (OpenSpec.ofChange Rows.diskFilesSpec) :=
  OpenClaim.holds_of_wide 5 Try.f5 rfl rfl rfl rfl rfl rfl rfl ⟨rfl, rfl, rfl, rfl, rfl⟩ rfl rfl rfl rfl rfl (by kernel_rfl) Try.func5 (by kernel_rfl)
    (of_decide_eq_true (by kernel_rfl)) (by unfold Func.isWrapper; first | (rw [if_pos (by decide +kernel)]; kernel_rfl) | (rw [if_neg (by decide +kernel)]; exact ⟨rfl, rfl⟩))
    (fun os started H enc _ => lifted os started H enc)

theorem proved : Rows.DiskFilesSaid := over
#print axioms proved
end Go.Proofs.Ytnlbdmciaodohaa.lDiskFiles
