/- A map of blocks by their places, as it lies in memory: what a look-up, a store and a range over it do. -/
import Derived.Test.YtnlbdmciaodohaaWords
import Derived.Test.YtnlbdmciaodohaaChecked
import Derived.Maps.RangeRun
import Derived.Maps.RangeWalk
import Derived.Deep.MidRow
import Derived.OrdersHeld
import Derived.Deep.RegionWith
namespace Oc
open Go Go.RowKit
open Go.ChangeMaps (setBlock)
set_option linter.unusedVariables false
set_option linter.unusedSimpArgs false
/-- A place: a file (kind, x, z) and a block's number. -/
structure Key where
  k : Int
  x : Int
  z : Int
  i : Int
deriving DecidableEq
def encK (p : Key) : Value := .agg #[.int .i64 p.k, .int .i64 p.x, .int .i64 p.z, .int .i64 p.i]
def encV (v : List Int) : Value := .agg (v.map (.int .u8)).toArray
def zeros : List Int := List.replicate 32 0
abbrev Dm := List (Key × List Int)
def entFrom (n : Nat) : Dm → List MapEntry
  | [] => []
  | x :: l => { key := encK x.1, val := encV x.2, born := n } :: entFrom (n + 1) l
def ents (M : Dm) : Array MapEntry := (entFrom 0 M).toArray
theorem entFrom_get : ∀ (M : Dm) (n j : Nat), (entFrom n M)[j]? = (M[j]?).map fun x => { key := encK x.1, val := encV x.2, born := n + j }
  | [], n, j => by simp [entFrom]
  | x :: M, n, 0 => by simp [entFrom]
  | x :: M, n, j + 1 => by
    simp only [entFrom, List.getElem?_cons_succ]
    rw [entFrom_get M (n + 1) j]
    congr 1; funext y; congr 1; omega
theorem entFrom_length : ∀ (M : Dm) (n : Nat), (entFrom n M).length = M.length
  | [], _ => rfl
  | x :: M, n => by simp [entFrom, entFrom_length M (n + 1)]
theorem ents_size (M : Dm) : (ents M).size = M.length := by simp [ents, entFrom_length]
def keyEq (p q : Key) : Bool := p.k == q.k && (p.x == q.x && (p.z == q.z && p.i == q.i))
theorem keyEq_iff (p q : Key) : keyEq p q = true ↔ p = q := by
  cases p; cases q; simp [keyEq]
/-- Where a place is found, and what it has. -/
def look (p : Key) : Dm → Nat → Option (Nat × List Int)
  | [], _ => none
  | x :: l, i => if keyEq p x.1 then some (i, x.2) else look p l (i + 1)
theorem look_spec (p : Key) : ∀ (M : Dm) (i : Nat), (look p M i = none ∧ ∀ x ∈ M, x.1 ≠ p) ∨ ∃ j v, look p M i = some (i + j, v) ∧ M[j]? = some (p, v)
  | [], i => .inl ⟨rfl, fun _ h => nomatch h⟩
  | x :: M, i => by
    unfold look
    by_cases h : keyEq p x.1 = true
    · rw [if_pos h]
      right
      refine ⟨0, x.2, rfl, ?_⟩
      rw [(keyEq_iff _ _).1 h]; rfl
    · rw [if_neg h]
      rcases look_spec p M (i + 1) with ⟨h1, h2⟩ | ⟨j, v, h1, h2⟩
      · left
        refine ⟨h1, fun y hy => ?_⟩
        rcases List.mem_cons.1 hy with rfl | hy
        · intro e; exact h ((keyEq_iff _ _).2 e.symm)
        · exact h2 y hy
      · right
        exact ⟨j + 1, v, by rw [h1]; congr 2; omega, by simpa using h2⟩
def get (M : Dm) (p : Key) : List Int := match look p M 0 with
  | some (_, v) => v
  | none => zeros
def put (M : Dm) (p : Key) (v : List Int) : Dm := match look p M 0 with
  | some (i, _) => M.set i (p, v)
  | none => M ++ [(p, v)]
theorem ents_set {M : Dm} {p : Key} {v0 v : List Int} {i : Nat} (h : M[i]? = some (p, v0)) : (ents M).modify i (fun e => { e with key := encK p, val := encV v }) = ents (M.set i (p, v)) := by
  apply Array.ext'
  unfold ents
  apply List.ext_getElem?
  intro j
  simp only [Array.toList_modify, List.getElem?_modify]
  rw [entFrom_get, entFrom_get, List.getElem?_set]
  by_cases e : i = j
  · subst e
    have hl := (List.getElem?_eq_some_iff.1 h).1
    simp [h, hl]
  · rw [if_neg e]
    cases M[j]? <;> simp [e]
theorem ents_push (M : Dm) (p : Key) (v : List Int) : (ents M).push { key := encK p, val := encV v, born := M.length } = ents (M ++ [(p, v)]) := by
  apply Array.ext'
  unfold ents
  apply List.ext_getElem?
  intro j
  simp only [Array.toList_push]
  rw [List.getElem?_append, entFrom_length, entFrom_get, entFrom_get, List.getElem?_append]
  by_cases h : j < M.length
  · rw [if_pos h, if_pos h]
  · rw [if_neg h, if_neg h]
    by_cases e : j - M.length = 0
    · have : j = M.length := by omega
      subst this; simp
    · have : ∃ m, j - M.length = m + 1 := ⟨j - M.length - 1, by omega⟩
      obtain ⟨m, hm⟩ := this
      rw [hm]; simp
/-- The map lies in block bm. -/
def MapAt (w : World) (bm : Nat) (M : Dm) : Prop := w.heap[bm]? = some (.map (ents M) M.length)
theorem sameBits_key (p : Key) : Instr.sameBits 10000 (encK p) (encK p) = true := by
  unfold encK
  simp [Instr.sameBits]
/-! ### What has been seen of it -/
theorem nodup_le : ∀ (N : Nat) (l : List Nat), l.Nodup → (∀ x ∈ l, x < N) → l.length ≤ N
  | 0, l, _, h => by
    cases l with
    | nil => simp
    | cons x l => have := h x (List.mem_cons_self ..); omega
  | N + 1, l, hn, h => by
    have h1 := nodup_le N (l.erase N) (hn.erase N) (fun x hx => by
      have h2 := h x (List.mem_of_mem_erase hx)
      have : x ≠ N := fun e => by subst e; exact (List.Nodup.not_mem_erase hn) hx
      omega)
    have h2 := List.length_erase (a := N) (l := l)
    split at h2 <;> omega
/-- The iterator over it: seen so far. -/
structure IterAt (w : World) (r bm : Nat) (M : Dm) (seen : List Nat) : Prop where
  it : w.heap[r]? = some (.mapIter (some bm) M.length seen.toArray M.length)
  map : MapAt w bm M
  nd : seen.Nodup
  lt : ∀ j ∈ seen, j < M.length
theorem born_nodup (M : Dm) : ((ents M).toList.map (·.born)).Nodup := by
  have : ∀ (M : Dm) (n : Nat), ((entFrom n M).map (·.born)) = List.range' n M.length := by
    intro M
    induction M with
    | nil => intro n; rfl
    | cons x M ih => intro n; simp [entFrom, ih, List.range'_succ]
  unfold ents
  rw [this]
  exact List.nodup_range' ..
theorem mem_ents {M : Dm} {e : MapEntry} (h : e ∈ (ents M).toList) : ∃ j x, M[j]? = some x ∧ e = { key := encK x.1, val := encV x.2, born := j } := by
  unfold ents at h
  obtain ⟨j, hj⟩ := List.mem_iff_getElem?.1 h
  rw [entFrom_get] at hj
  cases hx : M[j]? with
  | none => rw [hx] at hj; cases hj
  | some x => rw [hx] at hj; cases hj; exact ⟨j, x, hx, by simp⟩
end Oc
namespace Go.Proofs.Ytnlbdmciaodohaa
open Go.RowKit
open Go.ChangeMaps (setBlock)
set_option linter.unusedVariables false
set_option linter.unusedSimpArgs false
set_option maxHeartbeats 1000000
theorem run_check (em : Bool) (p : Oc.Key) (w : World) : (Instr.checkKey em 10000 57 (Oc.encK p)).run Try.prog w = .ok () w := by
  kernel_rfl
theorem run_equal (p q : Oc.Key) (w : World) : (Op.equal 57 (Oc.encK p) (Oc.encK q)).run Try.prog w = .ok (Oc.keyEq p q) w := by
  show (Op.equalIn 10000 57 (.agg #[.int .i64 p.k, .int .i64 p.x, .int .i64 p.z, .int .i64 p.i]) (.agg #[.int .i64 q.k, .int .i64 q.x, .int .i64 q.z, .int .i64 q.i])).run Try.prog w = _
  simp [go_sem]
  unfold Oc.keyEq
  by_cases h1 : p.k = q.k <;> by_cases h2 : p.x = q.x <;> by_cases h3 : p.z = q.z <;> by_cases h4 : p.i = q.i <;> simp [h1, h2, h3, h4]
theorem run_asking (p : Oc.Key) (w : World) : ∀ (M : Oc.Dm) (n i : Nat), (Instr.findAsking 57 (Oc.encK p) (Oc.entFrom n M) i).run Try.prog w = .ok ((Oc.look p M i).map fun x => (x.1, Oc.encV x.2)) w
  | [], n, i => by simp [Oc.entFrom, Instr.findAsking, Oc.look]
  | x :: M, n, i => by
    unfold Oc.entFrom Instr.findAsking Oc.look
    simp only [Sem.run_bind, run_equal, Result.andThen]
    by_cases h : Oc.keyEq p x.1 = true
    · simp [h]
    · simp only [h]
      simp only [Bool.false_eq_true, if_false]
      exact run_asking p w M (n + 1) (i + 1)
theorem run_find (p : Oc.Key) (w : World) (M : Oc.Dm) : (Instr.findKey 57 (Oc.encK p) (Oc.ents M).toList).run Try.prog w = .ok ((Oc.look p M 0).map fun x => (x.1, Oc.encV x.2)) w := by
  have hu := Try.underlying57
  unfold Instr.findKey
  simp only [Sem.run_bind, run_underlying hu, Result.andThen]
  cases M with
  | nil => simp [Oc.ents, Oc.entFrom, Instr.findNow, Oc.look]
  | cons x M =>
    have : ∀ fs, Instr.findNow (.struct fs) (Oc.encK p) (Oc.ents (x :: M)).toList 0 = none := fun fs => by simp [Oc.ents, Oc.entFrom, Instr.findNow, Instr.sameNow]
    rw [this]
    exact run_asking p w (x :: M) 0 0
theorem run_zeroV (w : World) : (zeroValue 55).run Try.prog w = .ok (Oc.encV Oc.zeros) w := by
  kernel_rfl
theorem run_lookupD (w : World) (bm : Nat) (M : Oc.Dm) (h : Oc.MapAt w bm M) (p : Oc.Key) : (Instr.lookup 52 (.map (some bm)) (Oc.encK p) false).run Try.prog w = .ok (Oc.encV (Oc.get M p)) w := by
  have hu := Try.underlying52
  have hg : (getObj bm).run Try.prog w = .ok (.map (Oc.ents M) M.length) w := by simp [getObj, Sem.run, show w.heap[bm]? = _ from h]
  unfold Instr.lookup
  simp only [Sem.run_bind, run_underlying hu, Result.andThen, hg, Sem.run_pure, run_check, run_find]
  unfold Oc.get
  rcases Oc.look p M 0 with _ | ⟨j, v⟩
  · simp only [Option.map_none, Sem.run_bind, run_zeroV, Result.andThen, Sem.run_pure]
    rfl
  · simp only [Option.map_some, Sem.run_pure, Sem.run_bind, Result.andThen]
    rfl
theorem run_updateD (w : World) (bm : Nat) (M : Oc.Dm) (h : Oc.MapAt w bm M) (p : Oc.Key) (v : List Int) :
    (Instr.mapUpdate 52 (.map (some bm)) (Oc.encK p) (Oc.encV v)).run Try.prog w = .ok () (setBlock w bm (.map (Oc.ents (Oc.put M p v)) (Oc.put M p v).length)) := by
  have hu := Try.underlying52
  have hh : w.heap[bm]? = _ := h
  have hg : (getObj bm).run Try.prog w = .ok (.map (Oc.ents M) M.length) w := by simp [getObj, Sem.run, hh]
  have hs : ∀ o, (setObj bm o).run Try.prog w = .ok () (setBlock w bm o) := fun o => by simp [setObj, Sem.run, hh, setBlock]
  unfold Instr.mapUpdate
  simp only [Sem.run_bind, run_underlying hu, Result.andThen, hg, Sem.run_pure, run_check, run_find]
  unfold Oc.put
  rcases Oc.look_spec p M 0 with ⟨h1, _⟩ | ⟨j, v0, h1, h2⟩
  · rw [h1]
    simp only [Option.map_none, hs]
    rw [Oc.ents_push]; simp
  · rw [h1, Nat.zero_add]
    have hk : (((Oc.ents M)[j]?).map (·.key)).getD (Oc.encK p) = Oc.encK p := by
      unfold Oc.ents
      rw [List.getElem?_toArray, Oc.entFrom_get, h2]; rfl
    have hst : (Instr.keyThatStays (Oc.encK p) (Oc.encK p)).run Try.prog w = .ok (Oc.encK p) w := by
      unfold Instr.keyThatStays
      rw [if_pos (Oc.sameBits_key p)]; rfl
    simp only [Option.map_some, hk, Sem.run_bind, hst, Result.andThen, hs]
    rw [Oc.ents_set h2]; simp
theorem grownBy_setBlock (w : World) (r : Nat) (o : Obj) : w.grownBy (setBlock w r o) (some r) :=
  ⟨rfl, rfl, rfl, by simp [setBlock], fun k _ hk => by
    have : r ≠ k := fun e => hk (by rw [e])
    simp [setBlock, Array.getElem?_setIfInBounds_ne this]⟩
theorem setBlock_same {w : World} {r : Nat} {o : Obj} (h : r < w.heap.size) : (setBlock w r o).heap[r]? = some o := by simp [setBlock, h]
theorem setBlock_size {w : World} {r : Nat} {o : Obj} : (setBlock w r o).heap.size = w.heap.size := by simp [setBlock]
section
variable (w : World) {ops : Array Oper} {rest : List Oper} {o : Oper} {a : Act} {Q : Exit → Act → World → Prop}
theorem wpList_rangeD (hg : o.guard = none) (m : Operand) (hop : o.op = Op.range 52 m) (bm : Nat) (M : Oc.Dm) (hm : a.eval m = .map (some bm)) (hM : Oc.MapAt w bm M)
    (hK : Oc.IterAt (w.alloc (.mapIter (some bm) M.length #[] M.length)) w.heap.size bm M [] → wpList Try.prog ops Q rest (a.put o.dst (.pointer (some ⟨w.heap.size, 0, none⟩))) (w.alloc (.mapIter (some bm) M.length #[] M.length))) :
    wpList Try.prog ops Q (o :: rest) a w := by
  refine wpList_plain hg fun K' hK' => ?_
  have hu := Try.underlying52
  have hh : w.heap[bm]? = _ := hM
  have hrun : (Instr.range 52 (.map (some bm))).run Try.prog w = .ok (.pointer (some ⟨w.heap.size, 0, none⟩)) (w.alloc (.mapIter (some bm) M.length #[] M.length)) := by
    have hg' : (getObj bm).run Try.prog w = .ok (.map (Oc.ents M) M.length) w := by simp [getObj, Sem.run, hh]
    unfold Instr.range
    simp only [Sem.run_bind, run_underlying hu, Result.andThen, hg', Sem.run_pure, run_newObj_alloc]
  unfold Oper.wp
  simp [execOp, hop, hm, hrun, Result.andThen]
  refine hK' _ _ (hK ⟨heap_alloc_new w _, ?_, List.nodup_nil, fun j hj => nomatch hj⟩)
  exact (Below.heap_alloc w _ bm (Array.getElem?_eq_some_iff.1 hh).1).trans hh
theorem wpList_nextD (hg : o.guard = none) (it : Operand) (hop : o.op = Op.next it false) (r bm : Nat) (M : Oc.Dm) (seen : List Nat) (hit : a.eval it = .pointer (some ⟨r, 0, none⟩)) (h : Oc.IterAt w r bm M seen) (hne : r ≠ bm)
    (hDone : (∀ j, j < M.length → j ∈ seen) → wpList Try.prog ops Q rest (a.put o.dst (.tuple #[.bool false])) w)
    (hMore : ∀ (j : Nat) (x : Oc.Key × List Int) (w' : World), M[j]? = some x → j ∉ seen → Oc.IterAt w' r bm M (seen ++ [j]) → w.grownBy w' (some r) → w'.heap.size = w.heap.size →
      (Instr.entry (.pointer (some ⟨r, 0, none⟩))).run Try.prog w' = .ok (.tuple #[Oc.encK x.1, Oc.encV x.2]) w' → wpList Try.prog ops Q rest (a.put o.dst (.tuple #[.bool true, Oc.encK x.1, Oc.encV x.2])) w') :
    wpList Try.prog ops Q (o :: rest) a w := by
  refine wpList_plain hg fun K' hK' => ?_
  unfold Oper.wp
  have hb : w.heap[bm]? = some (.map (Oc.ents M) M.length) := h.map
  have hlr : r < w.heap.size := (Array.getElem?_eq_some_iff.1 h.it).1
  rcases run_next_at (P := Try.prog) w o.type r bm M.length M.length seen.toArray (Oc.ents M) M.length h.it hb (fun x hx => by
      obtain ⟨j, y, hj, rfl⟩ := Oc.mem_ents hx
      exact (List.getElem?_eq_some_iff.1 hj).1) (Nat.le_refl _) with ⟨h0, hrun⟩ | ⟨e, he, w1, hw1, hrun⟩
  · simp [execOp, hop, hit, hrun, Result.andThen]
    refine hK' _ _ (hDone fun j hj => ?_)
    have hx : (Oc.ents M)[j]? = some { key := Oc.encK (M[j]).1, val := Oc.encV (M[j]).2, born := j } := by
      unfold Oc.ents
      rw [List.getElem?_toArray, Oc.entFrom_get, List.getElem?_eq_getElem hj]; simp
    rcases Classical.em (j ∈ seen) with hc | hc
    · exact hc
    · exfalso
      have : ({ key := Oc.encK (M[j]).1, val := Oc.encV (M[j]).2, born := j } : MapEntry) ∈ leftOf (Oc.ents M) seen.toArray := by
        unfold leftOf
        rw [Array.mem_filter]
        exact ⟨Array.mem_of_getElem? hx, by simpa using hc⟩
      rw [Array.eq_empty_of_size_eq_zero h0] at this
      simp at this
  · have hel : e ∈ (Oc.ents M).toList ∧ e.born ∉ seen := by
      unfold leftOf at he
      simp at he
      simpa using he
    obtain ⟨j, x, hj, rfl⟩ := Oc.mem_ents hel.1
    have hns := hel.2
    simp only at hns hrun
    simp [execOp, hop, hit, hrun, Result.andThen]
    have hz : w1.heap = w.heap := by rcases hw1 with rfl | rfl <;> rfl
    have hg1 : w.grownBy w1 none := by rcases hw1 with rfl | rfl; exact Oc.only_refl _ _; exact Oc.only_drew (Oc.only_refl _ _)
    have hgs : w.grownBy (setBlock w1 r (.mapIter (some bm) M.length (seen ++ [j]).toArray M.length)) (some r) := Oc.only_trans (hg1.but _) (grownBy_setBlock _ _ _)
    have hit' : (setBlock w1 r (.mapIter (some bm) M.length (seen ++ [j]).toArray M.length)).heap[r]? = some (.mapIter (some bm) M.length (seen ++ [j]).toArray M.length) := setBlock_same (by rw [hz]; exact hlr)
    have hb' : (setBlock w1 r (.mapIter (some bm) M.length (seen ++ [j]).toArray M.length)).heap[bm]? = some (.map (Oc.ents M) M.length) := (hgs.block bm (Array.getElem?_eq_some_iff.1 hb).1 (by simpa using fun e => hne e.symm)).trans hb
    have hpush : seen.toArray.push j = (seen ++ [j]).toArray := by simp
    refine hK' _ _ (hMore j x _ hj hns ⟨hit', hb', ?_, ?_⟩ hgs (by rw [setBlock_size, hz]) ?_)
    · rw [List.nodup_append]
      exact ⟨h.nd, by simp, fun y hy z hz' e => by simp at hz'; subst hz'; subst e; exact hns hy⟩
    · intro y hy
      rcases List.mem_append.1 hy with hy | hy
      · exact h.lt y hy
      · simp at hy; subst hy; exact (List.getElem?_eq_some_iff.1 hj).1
    · exact run_entry_at (P := Try.prog) _ r bm M.length seen.toArray (Oc.ents M) M.length { key := Oc.encK x.1, val := Oc.encV x.2, born := j } (by rw [hpush]; exact hit') hb' hel.1 (Oc.born_nodup M)
end
section
variable {ops : Array Oper} {o : Oper} {a : Act} {w : World} {K : Act → World → Prop} {Q : Exit → Act → World → Prop} {E : Prop}
/-- A store into the map, as one step of a region. -/
theorem step_updateD (hg : o.guard = none) (m k x : Operand) (hop : o.op = Op.mapUpdate 52 m k x) (bm : Nat) (M : Oc.Dm) (hM : Oc.MapAt w bm M) (p : Oc.Key) (v : List Int)
    (hm : a.eval m = .map (some bm)) (hk : a.eval k = Oc.encK p) (hx : a.eval x = Oc.encV v) (h : K (a.put o.dst undef) (setBlock w bm (.map (Oc.ents (Oc.put M p v)) (Oc.put M p v).length))) :
    if Region.wanted o (yielded ops a.tmps) = true then Oper.wp Try.prog o a w K Q else E := by
  have hw : Region.wanted o (yielded ops a.tmps) = true := by simp [Region.wanted, hg]
  rw [if_pos hw]
  unfold Oper.wp
  simp [execOp, hop, hm, hk, hx, run_updateD w bm M hM p v, Result.andThen]
  exact h
/-- A look-up yields in every world that has the map. -/
theorem yieldsIf_lookupD {S : World → Prop} (hw : Region.wanted o (yielded ops a.tmps) = true) (m k : Operand) (hop : o.op = Op.lookup 52 m k false) (bm : Nat) (M : Oc.Dm) (p : Oc.Key)
    (hm : a.eval m = .map (some bm)) (hk : a.eval k = Oc.encK p) (hS : ∀ w, S w → Oc.MapAt w bm M) : YieldsIf Try.prog ops S o (Oc.encV (Oc.get M p)) a :=
  .inl ⟨hw, fun w hw' => by simp [execOp, hop, hm, hk, run_lookupD w bm M (hS w hw') p, Result.andThen]⟩
end
end Go.Proofs.Ytnlbdmciaodohaa
