/- The walk through the kind of a name: the map that it makes. -/
import Derived.Test.YtdhdlflemdmcjaaDoorKindRef
namespace Go.Proofs.YtdhdlflemdmcjaaDoor
set_option linter.unusedVariables false
open Go.RowKit Go.Maps
set_option maxHeartbeats 1000000
theorem kidx (n : Nat) (h : n < 16) : ∀ w, (Instr.index 36 (.agg Oc.kcells) (.int .i64 (n : Int))).run Tryd.prog w = .ok (.agg #[.string (Oc.kname n), .bool (Oc.kclear n), .int .i64 (Oc.kloss n), .int .i64 (Oc.kemits n)]) w := by
  intro w
  rcases n with _ | _ | _ | _ | _ | _ | _ | _ | _ | _ | _ | _ | _ | _ | _ | _ | n
  all_goals first | omega | kernel_rfl
theorem zeroInt (w : World) : (zeroValue 3).run Tryd.prog w = .ok (.int .i64 0) w := by kernel_rfl
set_option maxRecDepth 100000 in
theorem of_any (s : ByteArray) (w : World) (h : Oc.KTab w 0) (hs : s.size ≤ maxLen) :
    Calls Tryd.prog 10 #[.string s] w fun e w' => ∃ i b, e = .returned (.tuple #[.int .i64 i, .bool b]) ∧ Oc.IsOf s i b ∧ Below w.heap.size w w' := by
  have hmm := @run_makeMap Tryd.prog
  have hlt := h.lt
  obtain ⟨ty, fr, hg⟩ := id h
  go_enter Tryd.func10, Tryd.ntmps10
  go_wp2_with (refine wpList_load_row rfl 36 _ rfl 0 rfl ty Oc.kcells fr _ ?hgg Tryd.underlying36 rfl (by kernel_rfl) ?_)
  case hgg => exact (Below.heap_alloc _ _ _ hlt).trans hg
  go_loopw [11] (fun i wr => ∃ k : Nat, k ≤ 16 ∧ i = .int .i64 k ∧ wr.ownsMap Tryd.prog 9 (plainElem (H := Unit) Tryd.prog 3) w.heap.size k (Oc.kdata k) ∧ Below w.heap.size w wr) (fun i _ => 16 - (intOf i).toNat)
  case atStart => exact ⟨0, by omega, rfl, World.ownsMap_made _ _ _ _, (Below.refl _ _).alloc (Nat.le_refl _) _⟩
  case round =>
    obtain ⟨k, hk, rfl, hown, hb⟩ := hrel
    have hbz := hb.size
    clear h hg hmm
    by_cases hk16 : k < 16
    · have ix := kidx k hk16
      have hkey : keyOf Tryd.prog 9 (.string (Oc.kname k)) = some (.string (Oc.kname k).data.toList) := WideMaps.keyOf_string_mk Tryd.underlying9 (Oc.kname_size k)
      go_wp2_with (at_mapUpdate; refine wpList_mapUpdate_own _ rfl _ _ _ 35 rfl 9 3 (string_keyed Tryd.underlying9) Tryd.underlying35 _ w.heap.size k _ rfl (hown.alloc _) (by unfold maxLen; omega) _ _ _ rfl rfl hkey _ [] (plainElem_int Tryd.underlying3 (a := (k : Int)) (WalkArith.wf_i64 (by omega))) ?_; intro w1 hown1 hgrow1)
      go_roundw
      case rel => exact ⟨k + 1, by omega, by go_num, hown1, (hb.alloc hbz _).grown hgrow1 (by simp; omega) (fun j hj => by cases hj; exact Nat.le_refl _)⟩
      case measure => simp [intOf]; omega
    · obtain rfl : k = 16 := by omega
      have hkey : keyOf Tryd.prog 9 (.string s) = some (.string s.data.toList) := WideMaps.keyOf_string_mk Tryd.underlying9 hs
      go_wp2_with (at_lookup; refine wpList_lookup_own_ok_int _ rfl _ _ 35 rfl 9 3 .i64 (string_keyed Tryd.underlying9) Tryd.underlying35 Tryd.underlying3 (zeroInt _) w.heap.size 16 _ rfl hown _ _ rfl hkey ?_; intro c hat hwc)
      go_ret2
      exact ⟨_, _, rfl, Oc.kdata_isOf s c hat, hb⟩
end Go.Proofs.YtdhdlflemdmcjaaDoor
