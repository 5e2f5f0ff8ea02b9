/- The walk through a disk's Files. -/
import Derived.Test.YtnlbdmciaodohaaDiskComp
import Derived.Test.YtnlbdmciaodohaaSeqOwn
import Derived.Shelf.SlSortCmp.NoneTotal
import Derived.Deep.AppendLies
namespace Oc
open Go Go.RowKit
set_option linter.unusedVariables false
def Key.file (p : Key) : Fl := (p.k, p.x, p.z)
/-- The files of a disk, rising, each once. -/
def FilesOf (M : Dm) (L : List Fl) : Prop := Rising L ∧ (∀ f, f ∈ L ↔ ∃ x ∈ M, x.1.file = f) ∧ L.length ≤ M.length
def cellsF (L : List Fl) : List Value := L.flatMap encF
theorem cellsF_snoc (L : List Fl) (f : Fl) : cellsF (L ++ [f]) = cellsF L ++ encF f := by unfold cellsF; simp
theorem cellsF_len (L : List Fl) : (cellsF L).length = L.length * 3 := by
  induction L with
  | nil => rfl
  | cons x L ih => unfold cellsF at *; simp [ih, encF]; omega
theorem cellsF_get : ∀ (L : List Fl) (i : Nat) (x : Fl), L[i]? = some x → (cellsF L)[i * 3]? = some (.int .i64 x.1) ∧ (cellsF L)[i * 3 + 1]? = some (.int .i64 x.2.1) ∧ (cellsF L)[i * 3 + 2]? = some (.int .i64 x.2.2)
  | [], _, _, h => by simp at h
  | y :: L, 0, x, h => by
    have : y = x := by simpa using h
    subst this
    simp [cellsF, encF]
  | y :: L, i + 1, x, h => by
    have h' : L[i]? = some x := by simpa using h
    have ih := cellsF_get L i x h'
    unfold cellsF at *
    rw [List.flatMap_cons, show (i + 1) * 3 = i * 3 + 3 by omega]
    have e : ∀ c, (encF y ++ List.flatMap encF L)[i * 3 + 3 + c]? = (List.flatMap encF L)[i * 3 + c]? := fun c => by
      rw [List.getElem?_append_right (by simp [encF]; omega)]; congr 1; simp [encF]; omega
    exact ⟨by rw [show i * 3 + 3 = i * 3 + 3 + 0 by omega, e 0]; exact ih.1, by rw [e 1]; exact ih.2.1, by rw [e 2]; exact ih.2.2⟩
/-- What the gathering keeps. -/
def Gath (M : Dm) (seen : List Nat) (F : List Fl) : Prop := F.length = seen.length ∧ ∀ f, f ∈ F ↔ ∃ j ∈ seen, ∃ x, M[j]? = some x ∧ x.1.file = f
theorem Gath.snoc {M : Dm} {seen : List Nat} {F : List Fl} (h : Gath M seen F) {j : Nat} {x : Key × List Int} (hj : M[j]? = some x) : Gath M (seen ++ [j]) (F ++ [x.1.file]) := by
  refine ⟨by simp [h.1], fun f => ?_⟩
  rw [List.mem_append, h.2]
  constructor
  · rintro (⟨i, hi, y, hy, rfl⟩ | hf)
    · exact ⟨i, by simp [hi], y, hy, rfl⟩
    · exact ⟨j, by simp, x, hj, (List.mem_singleton.1 hf).symm⟩
  · rintro ⟨i, hi, y, hy, rfl⟩
    rcases List.mem_append.1 hi with hi | hi
    · exact .inl ⟨i, hi, y, hy, rfl⟩
    · obtain rfl := List.mem_singleton.1 hi
      have : x = y := Option.some.inj (hj.symm.trans hy)
      subst this; simp
theorem Gath.all {M : Dm} {seen : List Nat} {F : List Fl} (h : Gath M seen F) (hall : ∀ j, j < M.length → j ∈ seen) (f : Fl) : f ∈ F ↔ ∃ x ∈ M, x.1.file = f := by
  rw [h.2]
  constructor
  · rintro ⟨j, _, x, hx, e⟩; exact ⟨x, List.mem_of_getElem? hx, e⟩
  · rintro ⟨x, hx, e⟩
    obtain ⟨j, hj⟩ := List.mem_iff_getElem?.1 hx
    exact ⟨j, hall j (List.getElem?_eq_some_iff.1 hj).1, x, hj, e⟩
/-- A list of files as a value. -/
def FlVal (n₀ : Nat) (w : World) (T : Nat) (v : Value) (L : List Fl) : Prop :=
  (v = .slice none 0 0 ∧ L = []) ∨ ∃ g C cap, v = .slice (some ⟨g, 0, none⟩) L.length cap ∧ n₀ ≤ g ∧ w.heap[g]? = some (.cells C T (0, 0)) ∧ RowC C L ∧ L.length ≤ cap
end Oc
namespace Go.Proofs.Ytnlbdmciaodohaa
set_option linter.unusedVariables false
set_option linter.unusedSimpArgs false
open Go.RowKit
set_option maxHeartbeats 4000000
theorem sort_none (fv : Value) (w : World) : Calls Try.prog 27 #[.slice none 0 0, fv] w fun e w' => e = .returned (.tuple #[]) ∧ w' = w :=
  AnyF.slices_SortFunc_none { sortF with } none 0 fv w
theorem compact_none (w : World) : Calls Try.prog 31 #[.slice none 0 0] w fun e w' => e = .returned (.slice none 0 0) ∧ w' = w := by
  go_enter Try.func31, Try.ntmps31
  go_wp2_with fail
  go_ret
  exact ⟨rfl, rfl⟩
theorem infoFile : (Try.prog.info? 30).map (fun i => (i.zero, i.size, i.bytes)) = some (some (.agg #[.int .i64 0, .int .i64 0, .int .i64 0]), 3, 24) := by kernel_rfl
set_option maxRecDepth 100000 in
theorem dfiles_any (b bm : Nat) (s : Oc.Ds) (w : World) (hD : Oc.DkAt 54 w b bm s) (hML : s.M.length ≤ 1000) :
    Calls Try.prog 17 #[.pointer (some ⟨b, 0, none⟩)] w fun e w' => ∃ v L, e = .returned v ∧ Oc.FilesOf s.M L ∧ Oc.FlVal w.heap.size w' 30 v L ∧ Below w.heap.size w w' := by
  obtain ⟨⟨c0, c1, c2, c3⟩, _, hb, hbm⟩ := hD.cells
  obtain ⟨i0, hi, y0, y1, y2⟩ := info_parts infoFile
  have hM0 : Oc.MapAt w bm s.M := hD.map
  go_enter Try.func17, Try.ntmps17
  go_wp2_with (at_range; refine wpList_rangeD _ rfl _ rfl bm s.M rfl hM0 ?_; intro hit)
  go_frame
  obtain ⟨W1, hW1⟩ : ∃ W1, W1 = w.alloc (.mapIter (some bm) s.M.length #[] s.M.length) := ⟨_, rfl⟩
  have hB1 : Below w.heap.size w W1 := by rw [hW1]; exact (Below.refl _ w).alloc (Nat.le_refl _) _
  have hz1 : w.heap.size + 1 ≤ W1.heap.size := by rw [hW1]; simp
  rw [← hW1] at hit ⊢
  clear hW1 c0 c1 c2 c3 hM0
  go_loopg [3] s.M.length (fun gk v wr => ∃ (seen : List Nat) (F : List Oc.Fl), seen.length + gk = s.M.length ∧ Oc.IterAt wr w.heap.size bm s.M seen ∧ wr.ownsRow (w.heap.size + 1) 30 3 v F.length (Oc.cellsF F) ∧ Oc.Gath s.M seen F ∧ Below w.heap.size w wr ∧ w.heap.size + 1 ≤ wr.heap.size)
  case atStart => exact ⟨[], [], by simp, hit, World.ownsRow_nil _ _ _ _, ⟨rfl, by simp⟩, hB1, hz1⟩
  case round =>
    clear hit hB1
    obtain ⟨seen, F, hsk, hitr, hown, hg, hB, hz⟩ := hrel
    have HG := Oc.hide hg
    have hF1 : F.length ≤ 1000 := by have := hg.1; omega
    have hF2 : F.length ≤ s.M.length := by have := hg.1; omega
    clear hg
    go_wp2_with (at_next; refine wpList_nextD _ rfl _ rfl w.heap.size bm s.M seen rfl hitr (by omega) ?_ ?_)
    · intro hall
      have hmem := (Oc.unhide HG).all hall
      have Hmem := Oc.hide hmem
      clear hall hmem
      rcases hown.2 with ⟨rfl, hn0⟩ | ⟨g, cap, cur, rfl, hbase, hheap, hncap, hcapm, hcur, htake⟩
      · clear hown hitr
        go_wp2_with fail
        refine (sort_none _ _).mono ?_
        rintro e w2 ⟨rfl, rfl⟩
        go_wp2_with fail
        refine (compact_none _).mono ?_
        rintro e w3 ⟨rfl, rfl⟩
        go_wp2_with fail
        go_ret
        have hF0 : F = [] := List.eq_nil_of_length_eq_zero hn0
        refine ⟨_, [], rfl, ⟨List.Pairwise.nil, fun f => ?_, Nat.zero_le _⟩, .inl ⟨rfl, rfl⟩, hB⟩
        rw [← Oc.unhide Hmem f, hF0]
      · have hC : Oc.RowC cur F := fun i x hx => by
          have hil : i < F.length := (List.getElem?_eq_some_iff.1 hx).1
          have hg : ∀ c, c < 3 → cur[i * 3 + c]? = (Oc.cellsF F)[i * 3 + c]? := fun c hc => by
            rw [← htake, List.getElem?_take_of_lt (by omega), Array.getElem?_toList]
          obtain ⟨h0, h1, h2⟩ := Oc.cellsF_get F i x hx
          exact ⟨by have := hg 0 (by omega); rw [Nat.add_zero] at this; rw [this, h0], by rw [hg 1 (by omega), h1], by rw [hg 2 (by omega), h2]⟩
        have HC := Oc.hide hC
        have hgz : g < wr.heap.size := (Array.getElem?_eq_some_iff.1 hheap).1
        clear hown hitr htake hC
        go_wp2_with fail
        refine (sort_any g 30 cap cur F wr (Oc.unhide HC) hheap (by omega)).mono ?_
        rintro e w2 ⟨rfl, L', C', hperm, hris, hw2, hcz, hC', ht2⟩
        have hlen := hperm.length_eq
        have hB2 := ht2.below hB hB.size (by simp; omega)
        have HP := Oc.hide (And.intro hperm hris)
        have HC2 := Oc.hide hC'
        have HLn := Oc.hide hlen
        clear hheap hC' hperm hris ht2 hB hlen
        go_wp2_with fail
        have hlen := Oc.unhide HLn
        have hcp := compact_any g 30 cap C' L' w2 (Oc.unhide HC2) hw2 (by omega) hcapm (by omega) (by omega)
        rw [hlen] at hcp
        refine hcp.mono ?_
        rintro e w3 ⟨rfl, C3, hw3, hC3, ht3⟩
        have hB3 := ht3.below hB2 hB2.size (by simp; omega)
        have HC3 := Oc.hide hC3
        clear hC3 hw2 hcp hlen
        go_wp2_with fail
        go_ret
        obtain ⟨hperm, hris⟩ := Oc.unhide HP
        have hrr := Oc.ded_rising (L := L') hris L'.length (Nat.le_refl _)
        have hmm := Oc.ded_mem (L := L') L'.length (Nat.le_refl _)
        rw [List.take_length] at hrr hmm
        refine ⟨_, Oc.ded L', rfl, ⟨hrr.1, fun f => ?_, ?_⟩, .inr ⟨g, C3, cap, rfl, by omega, hw3, Oc.unhide HC3, ?_⟩, hB3⟩
        · rw [hmm f, hperm.mem_iff, Oc.unhide Hmem f]
        · have := Oc.ded_len (L := L') L'.length (Nat.le_refl _)
          rw [List.take_length] at this
          have := hperm.length_eq
          omega
        · have := Oc.ded_len (L := L') L'.length (Nat.le_refl _)
          rw [List.take_length] at this
          have := hperm.length_eq
          omega
    · intro j kx vx w' hj hns hit' hg' hsz hen
      simp only [Oc.encK] at hen
      have hlt : seen.length < s.M.length := by
        have := Oc.nodup_le s.M.length (seen ++ [j]) hit'.nd hit'.lt
        simp at this; omega
      have hfar := Oc.owns_far hown
      have hnb : ∀ r, u3.ownBlock = some r → w.heap.size + 1 ≤ r := fun r e => (hfar r e).1
      have hown' := Oc.owns_kept hown hg' fun r e e2 => by cases e; have := hnb _ e2; omega
      have hB' : Below w.heap.size w w' := hB.grown hg' hB.size fun r e => by cases e; exact Nat.le_refl _
      obtain ⟨O1, hO1⟩ : ∃ O1, O1 = Obj.cells #[.int .i64 kx.k, .int .i64 kx.x, .int .i64 kx.z, .int .i64 kx.i] 57 (0, 0) := ⟨_, rfl⟩
      obtain ⟨O2, hO2⟩ : ∃ O2, O2 = Obj.cells #[.int .i64 kx.k, .int .i64 kx.x, .int .i64 kx.z] 30 (0, 0) := ⟨_, rfl⟩
      have hnew : ((w'.alloc O1).alloc O2).heap[w'.heap.size + 1]? = some (.cells #[.int .i64 kx.k, .int .i64 kx.x, .int .i64 kx.z] 30 (0, 0)) := by
        have := heap_alloc_new (w'.alloc O1) O2
        rw [World.size_alloc] at this
        rw [this, hO2]
      have hgo : w'.grownBy ((w'.alloc O1).alloc O2) none := Oc.only_alloc (Oc.only_alloc (Oc.only_refl _ _) _) _
      have happ : ∀ v' w1, w1.ownsRow (w.heap.size + 1) 30 3 v' (F.length + 1) (Oc.cellsF F ++ [.int .i64 kx.k, .int .i64 kx.x, .int .i64 kx.z]) → ((w'.alloc O1).alloc O2).grownBy w1 u3.ownBlock →
          Oc.IterAt w1 w.heap.size bm s.M (seen ++ [j]) ∧ w1.ownsRow (w.heap.size + 1) 30 3 v' (F ++ [kx.file]).length (Oc.cellsF (F ++ [kx.file])) ∧ Oc.Gath s.M (seen ++ [j]) (F ++ [kx.file]) ∧ Below w.heap.size w w1 ∧ w.heap.size + 1 ≤ w1.heap.size := fun v' w1 q1 q2 => by
        have hk : ∀ k, k ≤ w.heap.size → w1.heap[k]? = w'.heap[k]? := fun k hk => by
          have hz' : w.heap.size + 1 ≤ w'.heap.size := by omega
          rw [q2.block k (by simp; omega) (fun e => by have := hnb k e.symm; omega), Below.heap_alloc _ _ _ (by simp; omega), Below.heap_alloc _ _ _ (by omega)]
        refine ⟨⟨(hk _ (Nat.le_refl _)).trans hit'.it, (hk _ (by omega)).trans hit'.map, hit'.nd, hit'.lt⟩, ?_, (Oc.unhide HG).snoc hj, (hB'.grown hgo hB'.size fun r e => nomatch e).grown q2 (by simp; omega) fun r e => by have := hnb r e.symm.symm; omega, by have := q2.size; simp at this; omega⟩
        rw [Oc.cellsF_snoc, List.length_append]; exact q1
      have App := @Oc.hide _ happ
      have HN := Oc.hide hnew
      have hrowA : ((w'.alloc O1).alloc O2).ownsRow (w.heap.size + 1) 30 3 u3 F.length (Oc.cellsF F) := (hown'.alloc O1).alloc O2
      have HR := Oc.hide hrowA
      have hzz : w.heap.size + 1 ≤ ((w'.alloc O1).alloc O2).heap.size := by simp; omega
      have HZ := Oc.hide hzz
      clear happ hnew hrowA hzz hgo hown hown' hfar hitr hit' hg' hj hns hsz
      subst hO1 hO2
      go_wp2_with (at_builtin; refine wpList_append_own _ rfl _ _ 42 rfl (w.heap.size + 1) 30 i0 (.agg #[.int .i64 0, .int .i64 0, .int .i64 0]) 3 24 Try.underlying42 hi y0 y1 y2 rfl (by decide) _ _ _ rfl (Oc.unhide HR) ⟨w'.heap.size + 1, 0, none⟩ 1 1 [.int .i64 kx.k, .int .i64 kx.x, .int .i64 kx.z] rfl rfl (World.news_of_block (Oc.unhide HN)) (by simp [Value.oneCell']) (by unfold maxLen; omega) (by omega) (Oc.unhide HZ) ?_; intro v' w1 hown' hgrow _)
      obtain ⟨a1, a2, a3, a4, a5⟩ := Oc.unhide App v' w1 hown' hgrow
      go_roundg (gk - 1)
      case measure => omega
      case rel => exact ⟨seen ++ [j], F ++ [kx.file], by simp; omega, a1, a2, a3, a4, a5⟩
end Go.Proofs.Ytnlbdmciaodohaa
