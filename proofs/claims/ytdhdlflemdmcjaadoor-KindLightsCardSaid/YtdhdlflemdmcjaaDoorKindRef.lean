/- The walks through the document's own text of the kinds, and the kind of a name. -/
import Derived.Test.YtdhdlflemdmcjaaDoorKindWalks
namespace Go.Proofs.YtdhdlflemdmcjaaDoor
set_option linter.unusedVariables false
open Go.RowKit Go.Maps
set_option maxHeartbeats 1000000
theorem rloss_any (k : Int) (w : World) :
    Calls Tryd.prog 17 #[.int .i64 k] w fun e w' => e = .returned (.int .i64 (Oc.klossG k)) ∧ w = w' := by
  by_cases g : k < 0 ∨ 16 ≤ k
  · have e : Oc.klossG k = 0 := by first | (unfold Oc.klossG; rw [if_neg (by omega)]) | (unfold Oc.klossG Oc.klossG; rw [if_neg (by omega)]; rfl)
    rw [e]
    rcases g with g | g
    all_goals
      go_enter Tryd.func17, Tryd.ntmps17
      go_wp2
      go_ret
      exact ⟨rfl, rfl⟩
  · obtain rfl | rfl | rfl | rfl | rfl | rfl | rfl | rfl | rfl | rfl | rfl | rfl | rfl | rfl | rfl | rfl : k = 0 ∨ k = 1 ∨ k = 2 ∨ k = 3 ∨ k = 4 ∨ k = 5 ∨ k = 6 ∨ k = 7 ∨ k = 8 ∨ k = 9 ∨ k = 10 ∨ k = 11 ∨ k = 12 ∨ k = 13 ∨ k = 14 ∨ k = 15 := by omega
    all_goals
      go_enter Tryd.func17, Tryd.ntmps17
      go_wp2
      go_ret
      exact ⟨rfl, rfl⟩
theorem remits_any (k : Int) (w : World) :
    Calls Tryd.prog 19 #[.int .i64 k] w fun e w' => e = .returned (.int .i64 (Oc.kemitsG k)) ∧ w = w' := by
  by_cases g : k < 0 ∨ 16 ≤ k
  · have e : Oc.kemitsG k = 0 := by first | (unfold Oc.kemitsG; rw [if_neg (by omega)]) | (unfold Oc.kemitsG Oc.klossG; rw [if_neg (by omega)]; rfl)
    rw [e]
    rcases g with g | g
    all_goals
      go_enter Tryd.func19, Tryd.ntmps19
      go_wp2
      go_ret
      exact ⟨rfl, rfl⟩
  · obtain rfl | rfl | rfl | rfl | rfl | rfl | rfl | rfl | rfl | rfl | rfl | rfl | rfl | rfl | rfl | rfl : k = 0 ∨ k = 1 ∨ k = 2 ∨ k = 3 ∨ k = 4 ∨ k = 5 ∨ k = 6 ∨ k = 7 ∨ k = 8 ∨ k = 9 ∨ k = 10 ∨ k = 11 ∨ k = 12 ∨ k = 13 ∨ k = 14 ∨ k = 15 := by omega
    all_goals
      go_enter Tryd.func19, Tryd.ntmps19
      go_wp2
      go_ret
      exact ⟨rfl, rfl⟩
theorem rclear_any (k : Int) (w : World) :
    Calls Tryd.prog 16 #[.int .i64 k] w fun e w' => e = .returned (.bool (Oc.kclearG k)) ∧ w = w' := by
  by_cases g : k < 0 ∨ 16 ≤ k
  · have e : Oc.kclearG k = false := by first | (unfold Oc.kclearG; rw [if_neg (by omega)]) | (unfold Oc.kclearG Oc.klossG; rw [if_neg (by omega)]; rfl)
    rw [e]
    have q1 : (k == 0) = false := by rw [beq_eq_false_iff_ne]; omega
    have q2 : (k == 14) = false := by rw [beq_eq_false_iff_ne]; omega
    rcases g with g | g
    all_goals
      go_enter Tryd.func16, Tryd.ntmps16
      go_wp2
      go_ret
      exact ⟨rfl, rfl⟩
  · obtain rfl | rfl | rfl | rfl | rfl | rfl | rfl | rfl | rfl | rfl | rfl | rfl | rfl | rfl | rfl | rfl : k = 0 ∨ k = 1 ∨ k = 2 ∨ k = 3 ∨ k = 4 ∨ k = 5 ∨ k = 6 ∨ k = 7 ∨ k = 8 ∨ k = 9 ∨ k = 10 ∨ k = 11 ∨ k = 12 ∨ k = 13 ∨ k = 14 ∨ k = 15 := by omega
    all_goals
      go_enter Tryd.func16, Tryd.ntmps16
      go_wp2
      go_ret
      exact ⟨rfl, rfl⟩
theorem ropaque_any (k : Int) (w : World) :
    Calls Tryd.prog 15 #[.int .i64 k] w fun e w' => e = .returned (.bool (Oc.kopaqueG k)) ∧ w = w' := by
  by_cases g : k < 0 ∨ 16 ≤ k
  · have e : Oc.kopaqueG k = false := by first | (unfold Oc.kopaqueG; rw [if_neg (by omega)]) | (unfold Oc.kopaqueG Oc.klossG; rw [if_neg (by omega)]; rfl)
    rw [e]
    rcases g with g | g
    all_goals
      go_enter Tryd.func15, Tryd.ntmps15
      go_wp2
      go_ret
      exact ⟨rfl, rfl⟩
  · obtain rfl | rfl | rfl | rfl | rfl | rfl | rfl | rfl | rfl | rfl | rfl | rfl | rfl | rfl | rfl | rfl : k = 0 ∨ k = 1 ∨ k = 2 ∨ k = 3 ∨ k = 4 ∨ k = 5 ∨ k = 6 ∨ k = 7 ∨ k = 8 ∨ k = 9 ∨ k = 10 ∨ k = 11 ∨ k = 12 ∨ k = 13 ∨ k = 14 ∨ k = 15 := by omega
    all_goals
      go_enter Tryd.func15, Tryd.ntmps15
      go_wp2
      go_ret
      exact ⟨rfl, rfl⟩
theorem rname_cell (w : World) (n : Nat) (h : n < 16) : (w.alloc (.cells #[.string ⟨#[97, 105, 114]⟩, .string ⟨#[115, 116, 111, 110, 101]⟩, .string ⟨#[100, 105, 114, 116]⟩, .string ⟨#[103, 114, 97, 115, 115]⟩, .string ⟨#[115, 97, 110, 100]⟩, .string ⟨#[119, 97, 116, 101, 114]⟩, .string ⟨#[103, 114, 97, 118, 101, 108]⟩, .string ⟨#[99, 111, 97, 108]⟩, .string ⟨#[105, 114, 111, 110]⟩, .string ⟨#[103, 111, 108, 100]⟩, .string ⟨#[108, 111, 103]⟩, .string ⟨#[108, 101, 97, 118, 101, 115]⟩, .string ⟨#[98, 114, 105, 99, 107]⟩, .string ⟨#[108, 97, 109, 112]⟩, .string ⟨#[103, 108, 97, 115, 115]⟩, .string ⟨#[98, 101, 100, 114, 111, 99, 107]⟩] 34)).cell? ⟨w.heap.size, n, none⟩ = some (.string (Oc.kname n)) := by
  rw [cell_of_row _ _ _ _ _ _ (heap_alloc_new w _)]
  rcases n with _ | _ | _ | _ | _ | _ | _ | _ | _ | _ | _ | _ | _ | _ | _ | _ | n
  all_goals first | rfl | omega
theorem rname_any (k : Int) (w : World) :
    Calls Tryd.prog 9 #[.int .i64 k] w fun e w' => e = .returned (.string (Oc.knameG k)) ∧ Below w.heap.size w w' := by
  by_cases g : 0 ≤ k ∧ k < 16
  · obtain ⟨n, rfl⟩ := Int.eq_ofNat_of_zero_le g.1
    have hn : n < 16 := by omega
    have hc := rname_cell w n hn
    have e : Oc.knameG (n : Int) = Oc.kname n := by unfold Oc.knameG; rw [if_pos g]; rfl
    rw [e]
    clear g e
    go_enter Tryd.func9, Tryd.ntmps9
    go_wp2
    go_ret
    exact ⟨rfl, by go_grown⟩
  · have e : Oc.knameG k = ⟨#[]⟩ := by unfold Oc.knameG; rw [if_neg g]
    rw [e]
    by_cases g1 : k < 0
    · clear g
      go_enter Tryd.func9, Tryd.ntmps9
      go_wp2
      go_ret
      exact ⟨rfl, by go_grown⟩
    · have g2 : 16 ≤ k := by omega
      clear g
      go_enter Tryd.func9, Tryd.ntmps9
      go_wp2
      go_ret
      exact ⟨rfl, by go_grown⟩
theorem rof_any (s : ByteArray) (w : World) :
    Calls Tryd.prog 11 #[.string s] w fun e w' => ∃ i b, e = .returned (.tuple #[.int .i64 i, .bool b]) ∧ Oc.IsOf s i b ∧ Below w.heap.size w w' := by
  go_enter Tryd.func11, Tryd.ntmps11
  go_wp2_with fail
  go_loopw [4] (fun i wr => ∃ k : Nat, k ≤ 16 ∧ i = .int .i64 k ∧ (∀ n, n < k → Oc.kname n ≠ s) ∧ Below w.heap.size w wr) (fun i _ => 16 - (intOf i).toNat)
  case atStart => exact ⟨0, by omega, rfl, fun n h => by omega, Below.refl _ _⟩
  case round =>
    obtain ⟨k, hk, rfl, hn, hb⟩ := hrel
    by_cases hlt : k < 16
    · have e : Oc.knameG (k : Int) = Oc.kname k := by unfold Oc.knameG; rw [if_pos (by omega)]; rfl
      have HN := Lib.hid hn
      clear hn
      by_cases q : Oc.kname k = s
      · have q' : ((Oc.kname k).toList == s.toList) = true := by rw [q]; simp
        have Q := Lib.hid q
        clear q
        go_wp2_with (go_at_call 9; refine (rname_any _ _).mono ?_; rintro e w' ⟨rfl, hb'⟩; have hb := hb.trans (hb'.mono hb.size); clear hb')
        go_ret2
        exact ⟨_, _, rfl, .inl ⟨rfl, k, hlt, rfl, Q.out⟩, hb⟩
      · have q' : ((Oc.kname k).toList == s.toList) = false := Oc.toList_ne q
        have Q := Lib.hid q
        clear q
        go_wp2_with (go_at_call 9; refine (rname_any _ _).mono ?_; rintro e w' ⟨rfl, hb'⟩; have hb := hb.trans (hb'.mono hb.size); clear hb')
        go_roundw
        case rel =>
          refine ⟨k + 1, by omega, by go_num, fun n h => ?_, hb⟩
          by_cases g : n = k
          · subst g; exact Q.out
          · exact HN.out n (by omega)
        case measure => simp [intOf]; omega
    · obtain rfl : k = 16 := by omega
      have HN := Lib.hid hn
      clear hn
      go_wp2_with fail
      go_ret2
      exact ⟨_, _, rfl, .inr ⟨rfl, rfl, HN.out⟩, hb⟩
end Go.Proofs.YtdhdlflemdmcjaaDoor
