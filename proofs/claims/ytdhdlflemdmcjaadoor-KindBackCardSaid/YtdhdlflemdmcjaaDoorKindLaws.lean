/- The walks through the laws of the kinds. -/
import Derived.Test.YtdhdlflemdmcjaaDoorKindLaw
namespace Go.Proofs.YtdhdlflemdmcjaaDoor
set_option linter.unusedVariables false
open Go.RowKit Go.Maps
set_option maxHeartbeats 1000000
theorem names_walk (k : Int) (w : World) (h : Oc.KTab w 0) :
    Calls Tryd.prog 3 #[.int .i64 k] w fun e w' => e = .returned (.bool true) ∧ Below w.heap.size w w' := by
  have hb := Below.refl w.heap.size w
  go_enter Tryd.func3, Tryd.ntmps3
  go_wp2_with (first | (go_at_call 7; refine (awake_any _ h).mono ?_; rintro e w' ⟨rfl, hb'⟩; have h := h.later hb'; have hb := hb.trans (hb'.mono hb.size); clear hb') | (go_at_call 8; refine (name_any _ _ h).mono ?_; rintro e w' ⟨rfl, hb'⟩; have h := h.later hb'; have hb := hb.trans (hb'.mono hb.size); clear hb') | (go_at_call 9; refine (rname_any _ _).mono ?_; rintro e w' ⟨rfl, hb'⟩; have h := h.later hb'; have hb := hb.trans (hb'.mono hb.size); clear hb'))
  go_ret
  exact ⟨rfl, hb⟩
theorem lights_facts (k : Int) (g : 0 ≤ k ∧ k < 16) : (Oc.kopaqueG k = true → Oc.klossG k = 16 ∧ Oc.kclearG k = false) ∧ (Oc.kopaqueG k = false → 1 ≤ Oc.klossG k ∧ Oc.klossG k ≤ 3) := by
  obtain rfl | rfl | rfl | rfl | rfl | rfl | rfl | rfl | rfl | rfl | rfl | rfl | rfl | rfl | rfl | rfl : k = 0 ∨ k = 1 ∨ k = 2 ∨ k = 3 ∨ k = 4 ∨ k = 5 ∨ k = 6 ∨ k = 7 ∨ k = 8 ∨ k = 9 ∨ k = 10 ∨ k = 11 ∨ k = 12 ∨ k = 13 ∨ k = 14 ∨ k = 15 := by omega
  all_goals decide
theorem lights_out (k : Int) (w : World) (h : Oc.KTab w 0) (g : k < 0 ∨ 15 < k) :
    Calls Tryd.prog 5 #[.int .i64 k] w fun e w' => e = .returned (.bool true) ∧ Below w.heap.size w w' := by
  have hb := Below.refl w.heap.size w
  have e1 : Oc.klossG k = 0 := by unfold Oc.klossG; rw [if_neg (by omega)]
  have e2 : Oc.kemitsG k = 0 := by unfold Oc.kemitsG; rw [if_neg (by omega)]
  have e3 : Oc.kclearG k = false := by unfold Oc.kclearG; rw [if_neg (by omega)]
  have e4 : Oc.kopaqueG k = false := by unfold Oc.kopaqueG; rw [e1]; rfl
  rcases g with g | g
  all_goals
    go_enter Tryd.func5, Tryd.ntmps5
    go_wp2_with (first | (go_at_call 7; refine (awake_any _ h).mono ?_; rintro e w' ⟨rfl, hb'⟩; have h := h.later hb'; have hb := hb.trans (hb'.mono hb.size); clear hb') | (go_at_call 12; refine (opaque_any _ _ h).mono ?_; rintro e w' ⟨rfl, hb'⟩; have h := h.later hb'; have hb := hb.trans (hb'.mono hb.size); clear hb') | (go_at_call 13; refine (clear_any _ _ h).mono ?_; rintro e w' ⟨rfl, hb'⟩; have h := h.later hb'; have hb := hb.trans (hb'.mono hb.size); clear hb') | (go_at_call 14; refine (loss_any _ _ h).mono ?_; rintro e w' ⟨rfl, hb'⟩; have h := h.later hb'; have hb := hb.trans (hb'.mono hb.size); clear hb') | (go_at_call 18; refine (emits_any _ _ h).mono ?_; rintro e w' ⟨rfl, hb'⟩; have h := h.later hb'; have hb := hb.trans (hb'.mono hb.size); clear hb') | (go_at_call 15; refine (ropaque_any _ _).mono ?_; rintro e w' ⟨rfl, rfl⟩) | (go_at_call 16; refine (rclear_any _ _).mono ?_; rintro e w' ⟨rfl, rfl⟩) | (go_at_call 17; refine (rloss_any _ _).mono ?_; rintro e w' ⟨rfl, rfl⟩) | (go_at_call 19; refine (remits_any _ _).mono ?_; rintro e w' ⟨rfl, rfl⟩))
    all_goals go_ret
    all_goals exact ⟨rfl, hb⟩
theorem lights_in (k : Int) (w : World) (h : Oc.KTab w 0) (g : 0 ≤ k ∧ k < 16) :
    Calls Tryd.prog 5 #[.int .i64 k] w fun e w' => e = .returned (.bool true) ∧ Below w.heap.size w w' := by
  have hb := Below.refl w.heap.size w
  have f := lights_facts k g
  obtain ⟨g0, g1⟩ := g
  cases o : Oc.kopaqueG k
  · obtain ⟨l0, l1⟩ := f.2 o
    clear f
    go_enter Tryd.func5, Tryd.ntmps5
    go_wp2_with (first | (go_at_call 7; refine (awake_any _ h).mono ?_; rintro e w' ⟨rfl, hb'⟩; have h := h.later hb'; have hb := hb.trans (hb'.mono hb.size); clear hb') | (go_at_call 12; refine (opaque_any _ _ h).mono ?_; rintro e w' ⟨rfl, hb'⟩; have h := h.later hb'; have hb := hb.trans (hb'.mono hb.size); clear hb') | (go_at_call 13; refine (clear_any _ _ h).mono ?_; rintro e w' ⟨rfl, hb'⟩; have h := h.later hb'; have hb := hb.trans (hb'.mono hb.size); clear hb') | (go_at_call 14; refine (loss_any _ _ h).mono ?_; rintro e w' ⟨rfl, hb'⟩; have h := h.later hb'; have hb := hb.trans (hb'.mono hb.size); clear hb') | (go_at_call 18; refine (emits_any _ _ h).mono ?_; rintro e w' ⟨rfl, hb'⟩; have h := h.later hb'; have hb := hb.trans (hb'.mono hb.size); clear hb') | (go_at_call 15; refine (ropaque_any _ _).mono ?_; rintro e w' ⟨rfl, rfl⟩) | (go_at_call 16; refine (rclear_any _ _).mono ?_; rintro e w' ⟨rfl, rfl⟩) | (go_at_call 17; refine (rloss_any _ _).mono ?_; rintro e w' ⟨rfl, rfl⟩) | (go_at_call 19; refine (remits_any _ _).mono ?_; rintro e w' ⟨rfl, rfl⟩))
    all_goals go_ret
    all_goals exact ⟨rfl, hb⟩
  · obtain ⟨l0, l1⟩ := f.1 o
    clear f
    go_enter Tryd.func5, Tryd.ntmps5
    go_wp2_with (first | (go_at_call 7; refine (awake_any _ h).mono ?_; rintro e w' ⟨rfl, hb'⟩; have h := h.later hb'; have hb := hb.trans (hb'.mono hb.size); clear hb') | (go_at_call 12; refine (opaque_any _ _ h).mono ?_; rintro e w' ⟨rfl, hb'⟩; have h := h.later hb'; have hb := hb.trans (hb'.mono hb.size); clear hb') | (go_at_call 13; refine (clear_any _ _ h).mono ?_; rintro e w' ⟨rfl, hb'⟩; have h := h.later hb'; have hb := hb.trans (hb'.mono hb.size); clear hb') | (go_at_call 14; refine (loss_any _ _ h).mono ?_; rintro e w' ⟨rfl, hb'⟩; have h := h.later hb'; have hb := hb.trans (hb'.mono hb.size); clear hb') | (go_at_call 18; refine (emits_any _ _ h).mono ?_; rintro e w' ⟨rfl, hb'⟩; have h := h.later hb'; have hb := hb.trans (hb'.mono hb.size); clear hb') | (go_at_call 15; refine (ropaque_any _ _).mono ?_; rintro e w' ⟨rfl, rfl⟩) | (go_at_call 16; refine (rclear_any _ _).mono ?_; rintro e w' ⟨rfl, rfl⟩) | (go_at_call 17; refine (rloss_any _ _).mono ?_; rintro e w' ⟨rfl, rfl⟩) | (go_at_call 19; refine (remits_any _ _).mono ?_; rintro e w' ⟨rfl, rfl⟩))
    all_goals go_ret
    all_goals exact ⟨rfl, hb⟩
theorem lights_walk (k : Int) (w : World) (h : Oc.KTab w 0) :
    Calls Tryd.prog 5 #[.int .i64 k] w fun e w' => e = .returned (.bool true) ∧ Below w.heap.size w w' := by
  by_cases g : 0 ≤ k ∧ k < 16
  · exact lights_in k w h g
  · exact lights_out k w h (by omega)
theorem kname_some (n : Nat) (h : n < 16) : ¬ (Oc.kname n).toList = [] := by
  rw [Oc.toList_data]
  rcases n with _ | _ | _ | _ | _ | _ | _ | _ | _ | _ | _ | _ | _ | _ | _ | _ | n
  all_goals first | decide | omega
theorem nameG_in (k : Int) (g : 0 ≤ k ∧ k < 16) : ∃ n : Nat, k = n ∧ n < 16 ∧ Oc.knameG k = Oc.kname n :=
  ⟨k.toNat, by omega, by omega, by unfold Oc.knameG; rw [if_pos g]⟩
theorem apart_out1 (a b : Int) (w : World) (h : Oc.KTab w 0) (g : a < 0 ∨ 15 < a) :
    Calls Tryd.prog 6 #[.int .i64 a, .int .i64 b] w fun e w' => e = .returned (.bool true) ∧ Below w.heap.size w w' := by
  have hb := Below.refl w.heap.size w
  have e1 : Oc.knameG a = ⟨#[]⟩ := by unfold Oc.knameG; rw [if_neg (by omega)]
  rcases g with g | g
  all_goals
    go_enter Tryd.func6, Tryd.ntmps6
    go_wp2_with (first | (go_at_call 7; refine (awake_any _ h).mono ?_; rintro e w' ⟨rfl, hb'⟩; have h := h.later hb'; have hb := hb.trans (hb'.mono hb.size); clear hb') | (go_at_call 8; refine (name_any _ _ h).mono ?_; rintro e w' ⟨rfl, hb'⟩; have h := h.later hb'; have hb := hb.trans (hb'.mono hb.size); clear hb'))
    all_goals go_ret
    all_goals exact ⟨rfl, hb⟩
theorem apart_out2 (a b : Int) (w : World) (h : Oc.KTab w 0) (ga : 0 ≤ a ∧ a < 16) (g : b < 0 ∨ 15 < b) :
    Calls Tryd.prog 6 #[.int .i64 a, .int .i64 b] w fun e w' => e = .returned (.bool true) ∧ Below w.heap.size w w' := by
  have hb := Below.refl w.heap.size w
  obtain ⟨a0, a1⟩ := ga
  have e1 : Oc.knameG b = ⟨#[]⟩ := by unfold Oc.knameG; rw [if_neg (by omega)]
  rcases g with g | g
  all_goals
    go_enter Tryd.func6, Tryd.ntmps6
    go_wp2_with (first | (go_at_call 7; refine (awake_any _ h).mono ?_; rintro e w' ⟨rfl, hb'⟩; have h := h.later hb'; have hb := hb.trans (hb'.mono hb.size); clear hb') | (go_at_call 8; refine (name_any _ _ h).mono ?_; rintro e w' ⟨rfl, hb'⟩; have h := h.later hb'; have hb := hb.trans (hb'.mono hb.size); clear hb'))
    all_goals go_ret
    all_goals exact ⟨rfl, hb⟩
theorem apart_in (a b : Int) (w : World) (h : Oc.KTab w 0) (ga : 0 ≤ a ∧ a < 16) (gb : 0 ≤ b ∧ b < 16) :
    Calls Tryd.prog 6 #[.int .i64 a, .int .i64 b] w fun e w' => e = .returned (.bool true) ∧ Below w.heap.size w w' := by
  have hb := Below.refl w.heap.size w
  obtain ⟨n, rfl, hn, e1⟩ := nameG_in a ga
  obtain ⟨m, rfl, hm, e2⟩ := nameG_in b gb
  have s1 := kname_some n hn
  have s2 : (Oc.kname n).toList.isEmpty = false := by simpa using s1
  clear ga gb
  by_cases q : n = m
  · subst q
    go_enter Tryd.func6, Tryd.ntmps6
    go_wp2_with (first | (go_at_call 7; refine (awake_any _ h).mono ?_; rintro e w' ⟨rfl, hb'⟩; have h := h.later hb'; have hb := hb.trans (hb'.mono hb.size); clear hb') | (go_at_call 8; refine (name_any _ _ h).mono ?_; rintro e w' ⟨rfl, hb'⟩; have h := h.later hb'; have hb := hb.trans (hb'.mono hb.size); clear hb'))
    go_ret
    exact ⟨rfl, hb⟩
  · have q1 : ((Oc.kname n).toList == (Oc.kname m).toList) = false := Oc.toList_ne (fun e => q (Oc.kname_inj n m hn hm e))
    have q2 : ((n : Int) == (m : Int)) = false := by rw [beq_eq_false_iff_ne]; omega
    go_enter Tryd.func6, Tryd.ntmps6
    go_wp2_with (first | (go_at_call 7; refine (awake_any _ h).mono ?_; rintro e w' ⟨rfl, hb'⟩; have h := h.later hb'; have hb := hb.trans (hb'.mono hb.size); clear hb') | (go_at_call 8; refine (name_any _ _ h).mono ?_; rintro e w' ⟨rfl, hb'⟩; have h := h.later hb'; have hb := hb.trans (hb'.mono hb.size); clear hb'))
    go_ret
    exact ⟨rfl, hb⟩
theorem apart_walk (a b : Int) (w : World) (h : Oc.KTab w 0) :
    Calls Tryd.prog 6 #[.int .i64 a, .int .i64 b] w fun e w' => e = .returned (.bool true) ∧ Below w.heap.size w w' := by
  by_cases g : a < 0 ∨ 15 < a
  · exact apart_out1 a b w h g
  · by_cases g2 : b < 0 ∨ 15 < b
    · exact apart_out2 a b w h (by omega) g2
    · exact apart_in a b w h (by omega) (by omega)
theorem knameG_size (k : Int) : (Oc.knameG k).size ≤ maxLen := by
  unfold Oc.knameG; split
  · exact Oc.kname_size _
  · decide
theorem back_walk (s : ByteArray) (k : Int) (w : World) (h : Oc.KTab w 0) (hs : s.size ≤ maxLen) :
    Calls Tryd.prog 4 #[.string s, .int .i64 k] w fun e w' => e = .returned (.bool true) ∧ Below w.heap.size w w' := by
  have hb := Below.refl w.heap.size w
  go_enter Tryd.func4, Tryd.ntmps4
  go_wp2_with (first | (go_at_call 7; refine (awake_any _ h).mono ?_; rintro e w' ⟨rfl, hb'⟩; have h := h.later hb'; have hb := hb.trans (hb'.mono hb.size); clear hb'))
  refine (of_any _ _ h hs).mono ?_
  rintro e w1 ⟨i, b, rfl, hi, hb'⟩
  have h := h.later hb'
  have hb := hb.trans (hb'.mono hb.size)
  clear hb'
  go_wp2_with fail
  refine (rof_any _ _).mono ?_
  rintro e w2 ⟨i2, b2, rfl, hi2, hb'⟩
  have h := h.later hb'
  have hb := hb.trans (hb'.mono hb.size)
  clear hb'
  obtain ⟨rfl, rfl⟩ := hi.unique hi2
  clear hi hi2
  go_wp2_with (first | (go_at_call 8; refine (name_any _ _ h).mono ?_; rintro e w' ⟨rfl, hb'⟩; have h := h.later hb'; have hb := hb.trans (hb'.mono hb.size); clear hb'))
  refine (of_any _ _ h (knameG_size k)).mono ?_
  rintro e w3 ⟨i3, b3, rfl, hi, hb'⟩
  have hb := hb.trans (hb'.mono hb.size)
  clear hb'
  by_cases g : 0 ≤ k ∧ k < 16
  · obtain ⟨n, rfl, hn, e1⟩ := nameG_in k g
    rw [e1] at hi
    obtain ⟨rfl, rfl⟩ := hi.unique (Oc.IsOf.of_name n hn)
    clear g e1 hi
    go_wp2_with fail
    go_ret
    exact ⟨rfl, hb⟩
  · clear hi
    have g' : k < 0 ∨ 15 < k := by omega
    clear g
    rcases g' with g | g
    all_goals
      go_wp2_with fail
      all_goals go_ret
      all_goals exact ⟨rfl, hb⟩
end Go.Proofs.YtdhdlflemdmcjaaDoor
