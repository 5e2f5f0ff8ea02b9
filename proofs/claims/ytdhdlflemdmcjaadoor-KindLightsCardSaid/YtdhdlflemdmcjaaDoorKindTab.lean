/- The table of kinds, as the row's listed variable gives it to the walks. -/
import Derived.Test.YtdhdlflemdmcjaaDoorRows
import Derived.Test.YtdhdlflemdmcjaaDoorKindPlain
import Derived.ProofKit
import Derived.LaidMore
import Derived.MakeChecks
import Derived.OpenShut
import Derived.Lib.SmallJoins
import Derived.Stop.Joined
namespace Go.Proofs.YtdhdlflemdmcjaaDoor
set_option linter.unusedVariables false
open Go.ChangeShapes Go.WideShapes Go.ChangeAt Go.RowKit

def kdatum {H : Type} (i : Nat) : DataW H := .agg [.lit (.string (Oc.kname i).data.toList), .lit (.bool (Oc.kclear i)), .lit (.int .i64 (Oc.kloss i)), .lit (.int .i64 (Oc.kemits i))]
theorem laid_is {H : Type} : (Rows.laid_outcrop_kind_rows : DataW H) = .agg ((List.range 16).map kdatum) := rfl
theorem gRows : Tryd.prog.globalNamed "outcrop/kind.rows" = some 0 := by kernel_rfl
theorem tRows : (Tryd.prog.globals[0]?).map (·.type) = some 36 := by kernel_rfl
theorem cRow : Tryd.prog.cellsOf 32 = 4 := by kernel_rfl
theorem cTab : Tryd.prog.cellsOf 36 = 64 := by kernel_rfl
theorem c1s : Tryd.prog.cellsOf 9 = 1 := by kernel_rfl
theorem c1b : Tryd.prog.cellsOf 4 = 1 := by kernel_rfl
theorem c1i : Tryd.prog.cellsOf 3 = 1 := by kernel_rfl

/-- One row of the table: its four cells. -/
theorem row_cells {enc : TypeId × Value → Unit} {W : World} {base : Nat} {sp : Nat → Bool} {held : Bool} {m i : Nat} {cs : List Value} {y : DataW Unit × List MemPlace}
    (h : DataW.trod enc Tryd.prog W base sp held m 32 cs = some y) (hy : y.1 = kdatum i) :
    cs = [.string (Oc.kname i), .bool (Oc.kclear i), .int .i64 (Oc.kloss i), .int .i64 (Oc.kemits i)] := by
  obtain ⟨y0, y1, y2, y3, n, rfl, hl, h0, h1, h2, h3⟩ := Joins.trod_struct4 Tryd.underlying32 h
  rw [cRow] at hl
  match cs, hl with
  | [c0, c1, c2, c3], _ =>
    simp only [c1s, c1b, c1i] at h0 h1 h2 h3
    obtain ⟨s, e0, rfl, _⟩ := DataW.trod_string Tryd.underlying9 h0
    obtain ⟨b, e1, rfl⟩ := DataW.trod_bool Tryd.underlying4 h1
    obtain ⟨l, e2, rfl, _⟩ := DataW.trod_int Tryd.underlying3 h2
    obtain ⟨q, e3, rfl, _⟩ := DataW.trod_int Tryd.underlying3 h3
    simp at e0 e1 e2 e3
    subst e0 e1 e2 e3
    simp only [kdatum, DataW.agg.injEq, List.cons.injEq, DataW.lit.injEq, Lit.string.injEq, Lit.bool.injEq, Lit.int.injEq, true_and, and_true] at hy
    obtain ⟨a, b, c, d⟩ := hy
    rw [Oc.bytes_inj a, b, c, d]
theorem tab_of_laid {W : World} (h : laidMetH Tryd.prog [("outcrop/kind.rows", Rows.laid_outcrop_kind_rows)] W) : Oc.KTab W 0 := by
  rw [MakeChecks.laidMetH_plain _ _ _ (by kernel_rfl)] at h
  obtain ⟨ps, ⟨g0, t0, cs0, f0, p0, q0, hg0, ht0, hv0, hd0, _, _⟩, _, _⟩ := h
  obtain rfl := Option.some.inj (gRows.symm.trans hg0)
  obtain rfl := Option.some.inj (tRows.symm.trans ht0)
  rw [laid_is] at hd0
  obtain ⟨xs, m, _, hx, hlen, hn, hel⟩ := DataW.trod_array Tryd.underlying36 hd0
  simp only [Prod.mk.injEq, DataW.agg.injEq] at hx
  have hchunk : ∀ i, i < 16 → (cs0.toList.drop (i * 4)).take 4 = [.string (Oc.kname i), .bool (Oc.kclear i), .int .i64 (Oc.kloss i), .int .i64 (Oc.kemits i)] := by
    intro i hi
    have h1 := hel i hi
    rw [cRow] at h1
    have hi' : i < xs.length := by omega
    rw [List.getElem?_eq_getElem hi'] at h1
    refine row_cells h1 ?_
    have := congrArg (fun l => l[i]?) hx.1
    simp only [List.getElem?_map, List.getElem?_eq_getElem hi', Option.map_some] at this
    rw [List.getElem?_range hi] at this
    simpa using this.symm
  have hcell : ∀ j, j < 64 → cs0[j]? = Oc.kcells[j]? := by
    intro j hj
    have hc := congrArg (fun l => l[j % 4]?) (hchunk (j / 4) (by omega))
    simp only [List.getElem?_take, List.getElem?_drop] at hc
    rw [if_pos (by omega), show j / 4 * 4 + j % 4 = j by omega] at hc
    rw [← Array.getElem?_toList, hc]
    have hr : j % 4 = 0 ∨ j % 4 = 1 ∨ j % 4 = 2 ∨ j % 4 = 3 := by omega
    rcases hr with r | r | r | r
    · rw [r]; have := Oc.kcells_name (j / 4) (by omega); rw [show j / 4 * 4 = j by omega] at this; rw [this]; rfl
    · rw [r]; have := Oc.kcells_clear (j / 4) (by omega); rw [show j / 4 * 4 + 1 = j by omega] at this; rw [this]; rfl
    · rw [r]; have := Oc.kcells_loss (j / 4) (by omega); rw [show j / 4 * 4 + 2 = j by omega] at this; rw [this]; rfl
    · rw [r]; have := Oc.kcells_emits (j / 4) (by omega); rw [show j / 4 * 4 + 3 = j by omega] at this; rw [this]; rfl
  have hsize : cs0.size = 64 := by rw [← Array.length_toList, hlen, cTab]
  have hks : Oc.kcells.size = 64 := rfl
  have e : cs0 = Oc.kcells := by
    apply Array.ext
    · omega
    · intro j h1 h2
      have := hcell j (by omega)
      rw [Array.getElem?_eq_getElem h1, Array.getElem?_eq_getElem h2] at this
      exact Option.some.inj this
  subst e
  unfold World.var? at hv0
  rw [gRows] at hv0
  simp only [Option.bind_some] at hv0
  split at hv0
  · rename_i cs t fr hb
    cases hv0
    exact ⟨t, fr, hb⟩
  · cases hv0
theorem door_met (os : Os) (args : Array Value) : laidMetH Tryd.prog [("outcrop/kind.rows", Rows.laid_outcrop_kind_rows)] ((World.doorLaid Tryd.prog 400 os).forCall (fun _ _ => 0) ⟨#[], args, []⟩).memory :=
  laidMetH_of_parts3 (fuel := 8) (laidMet_of_run' 8 (by kernel_rfl) (by kernel_rfl)) (by kernel_rfl) (by kernel_rfl)
end Go.Proofs.YtdhdlflemdmcjaaDoor
