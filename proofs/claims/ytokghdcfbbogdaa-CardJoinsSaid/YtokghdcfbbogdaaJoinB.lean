/-
  WORDS FOR MEMORY: ranging over a map that holds a list of states; maps in deeper worlds.
-/
import Derived.Test.YtokghdcfbbogdaaJoinA
import Derived.Test.YtokghdcfbbogdaaKeepB
import Derived.Maps.RangeRun
import Derived.Maps.RangeWalk
namespace Go.Proofs.Ytokghdcfbbogdaa
open Go.RowKit

@[go_sem] theorem drewN_plus {w : World} {os : Array Obj} {n q : Nat} : plus (w.drewN q) os n = plus w os n := rfl
theorem kvOf_take {xs : List St} (h : Apart2 xs) (k : Nat) (hk : k < xs.length) : kvPut (xs[k].bl, xs[k].no) xs[k].val (kvOf (xs.take k)) = kvOf (xs.take (k + 1)) := by
  rw [List.take_succ_eq_append_getElem hk]
  refine kvOf_put_new _ _ ?_
  rw [List.findIdx?_eq_none_iff]
  intro y hy
  obtain ⟨j, hj, rfl⟩ := List.getElem_of_mem hy
  rw [List.length_take] at hj
  rw [List.getElem_take]
  unfold Apart2 at h
  rw [List.pairwise_iff_getElem] at h
  have := h j k (by omega) hk (by omega)
  simpa [named] using this

/-- The world of a round of the second loop. -/
theorem deep_heap (V : World) (kv : KV) (os os3 os4 : Array Obj) (n n3 n4 : Nat) (C C' : Obj) : (plus ((plus ((plus (V.alloc (.map (ents kv) kv.length)) os n).alloc C) os3 n3).alloc C') os4 n4).heap[V.heap.size]? = some (.map (ents kv) kv.length) := by
  rw [plus_heap (by simp only [World.size_alloc, plus_size]; omega), Below.heap_alloc _ _ _ (by simp only [World.size_alloc, plus_size]; omega), plus_heap (by simp only [World.size_alloc, plus_size]; omega), Below.heap_alloc _ _ _ (by simp only [World.size_alloc, plus_size]; omega), plus_heap (by rw [World.size_alloc]; omega)]
  exact heap_alloc_new V _
theorem update_deep {t kt et : TypeId} (K : PairKey kt) (ht : Try.prog.underlying t = some (.map kt et)) (a b : Int) (v : Value) (V : World) (kv : KV) (os os3 os4 : Array Obj) (n n3 n4 : Nat) (C C' : Obj) :
    (Instr.mapUpdate t (.map (some V.heap.size)) (nameVal a b) v).run Try.prog (plus ((plus ((plus (V.alloc (.map (ents kv) kv.length)) os n).alloc C) os3 n3).alloc C') os4 n4) = .ok () (plus ((plus ((plus (V.alloc (.map (ents (kvPut (a, b) v kv)) (kvPut (a, b) v kv).length)) os n).alloc C) os3 n3).alloc C') os4 n4) :=
  (update_ents K ht a b v _ kv _ (deep_heap V kv os os3 os4 n n3 n4 C C')).trans (by
    rw [plus_setMap (by simp only [World.size_alloc, plus_size]; omega), alloc_setMap_old (by simp only [World.size_alloc, plus_size]; omega), plus_setMap (by simp only [World.size_alloc, plus_size]; omega), alloc_setMap_old (by simp only [World.size_alloc, plus_size]; omega), plus_setMap (by rw [World.size_alloc]; omega), alloc_setMap_new])
theorem lookup_ok_round {t kt et : TypeId} (K : PairKey kt) (ht : Try.prog.underlying t = some (.map kt et)) {z : Value} (hz : ∀ w, (zeroValue et).run Try.prog w = .ok z w) (a b : Int) (W0 : World) (kv : KV) (os : Array Obj) (n : Nat) (C : Obj) (os3 : Array Obj) (n3 : Nat) :
    (Instr.lookup t (.map (some W0.heap.size)) (nameVal a b) true).run Try.prog (plus ((plus (W0.alloc (.map (ents kv) kv.length)) os n).alloc C) os3 n3) = .ok (.tuple #[(kvFind (a, b) kv).getD z, .bool (kvFind (a, b) kv).isSome]) (plus ((plus (W0.alloc (.map (ents kv) kv.length)) os n).alloc C) os3 n3) :=
  lookup_ok_ents K ht hz a b _ _ kv (mapWorld_heap W0 kv os n C os3 n3)
theorem plain_heap (V : World) (kv : KV) (os : Array Obj) (n : Nat) : (plus (V.alloc (.map (ents kv) kv.length)) os n).heap[V.heap.size]? = some (.map (ents kv) kv.length) := by
  rw [plus_heap (by rw [World.size_alloc]; omega)]
  exact heap_alloc_new V _
theorem ents_size (kv : KV) : (ents kv).size = kv.length := by unfold ents; rw [List.size_toArray, entsFrom_len]
theorem len_ents {t k e ty : TypeId} (ht : Try.prog.underlying t = some (.map k e)) {r : Nat} {kv : KV} {w : World} (hr : w.heap[r]? = some (.map (ents kv) kv.length)) :
    (Builtin.len_ #[t] ty #[.map (some r)]).run Try.prog w = .ok (.int .i64 (kv.length : Int)) w := by
  have hs := ents_size kv
  simp [Builtin.len_, run_underlying ht, getObj, Sem.run, hr, hs, goInt, Result.andThen]
theorem range_ents {t k e : TypeId} (ht : Try.prog.underlying t = some (.map k e)) {r : Nat} {kv : KV} {w : World} (hr : w.heap[r]? = some (.map (ents kv) kv.length)) :
    (Instr.range t (.map (some r))).run Try.prog w = .ok (.pointer (some ⟨w.heap.size, 0, none⟩)) (w.alloc (.mapIter (some r) kv.length #[] kv.length)) := by
  simp [Instr.range, run_underlying ht, getObj, Sem.run, hr, Result.andThen, newObj]

theorem ents_entry {out : List St} {e : MapEntry} (he : e ∈ (ents (kvOf out)).toList) : ∃ i, ∃ hi : i < out.length, e = ⟨nameVal out[i].bl out[i].no, out[i].val, i⟩ := by
  have h3 : (ents (kvOf out)).toList = entsFrom 0 (kvOf out) := by simp [ents]
  rw [h3] at he
  obtain ⟨i, hi, rfl⟩ := List.getElem_of_mem he
  have hl : i < (kvOf out).length := by simpa [entsFrom_len] using hi
  have hl2 : i < out.length := by rwa [kvOf_len] at hl
  have := ents_get (kvOf out) 0 i hl
  refine ⟨i, hl2, ?_⟩
  rw [List.getElem?_eq_getElem hi] at this
  injection this with h2
  rw [h2]
  simp only [kvOf, List.getElem_map, Nat.zero_add]
theorem ents_mem {out : List St} {i : Nat} (hi : i < out.length) : (⟨nameVal out[i].bl out[i].no, out[i].val, i⟩ : MapEntry) ∈ (ents (kvOf out)).toList := by
  have := ents_get (kvOf out) 0 i (by rw [kvOf_len]; exact hi)
  simp only [kvOf, List.getElem_map, Nat.zero_add] at this
  have h3 : (ents (kvOf out)).toList = entsFrom 0 (kvOf out) := by simp [ents]
  rw [h3]
  exact List.mem_of_getElem? this
theorem ents_born (kv : KV) : ∀ j, (entsFrom j kv).map (·.born) = List.range' j kv.length := by
  induction kv with
  | nil => intro j; rfl
  | cons p ps ih => intro j; simp [entsFrom, ih, List.range'_succ]

/-- The iterator's world. -/
def itWorld (V2 : World) (bm n0 : Nat) (seen : Array Nat) (os : Array Obj) (n : Nat) : World := plus (V2.alloc (.mapIter (some bm) n0 seen n0)) os n
theorem wpList_next_list {ops : Array Oper} {rest : List Oper} {o : Oper} {a : Act} {Q : Exit → Act → World → Prop} {V2 : World} {bm : Nat} {out : List St} (hg : o.guard = none) (it : Operand) (hop : o.op = Op.next it false) (seen : Array Nat) (os : Array Obj) (n : Nat)
    (hit : a.eval it = .pointer (some ⟨V2.heap.size, 0, none⟩)) (hbm : V2.heap[bm]? = some (.map (ents (kvOf out)) (kvOf out).length)) (hbl : bm < V2.heap.size)
    (hDone : (∀ i, i < out.length → i ∈ seen.toList) → wpList Try.prog ops Q rest (a.put o.dst (.tuple #[.bool false])) (plus (V2.alloc (.mapIter (some bm) (kvOf out).length seen (kvOf out).length)) os n))
    (hMore : ∀ (i : Nat) (hi : i < out.length), i ∉ seen.toList → ∀ n', (Instr.entry (.pointer (some ⟨V2.heap.size, 0, none⟩))).run Try.prog (plus (V2.alloc (.mapIter (some bm) (kvOf out).length (seen.push i) (kvOf out).length)) os n') = .ok (.tuple #[nameVal out[i].bl out[i].no, out[i].val]) (plus (V2.alloc (.mapIter (some bm) (kvOf out).length (seen.push i) (kvOf out).length)) os n') →
      wpList Try.prog ops Q rest (a.put o.dst (.tuple #[.bool true, nameVal out[i].bl out[i].no, out[i].val])) (plus (V2.alloc (.mapIter (some bm) (kvOf out).length (seen.push i) (kvOf out).length)) os n')) :
    wpList Try.prog ops Q (o :: rest) a (plus (V2.alloc (.mapIter (some bm) (kvOf out).length seen (kvOf out).length)) os n) := by
  have hr : ∀ seen n, (plus (V2.alloc (.mapIter (some bm) (kvOf out).length seen (kvOf out).length)) os n).heap[V2.heap.size]? = some (.mapIter (some bm) (kvOf out).length seen (kvOf out).length) := fun seen n => by
    rw [plus_heap (by rw [World.size_alloc]; omega)]; exact heap_alloc_new V2 _
  have hb : ∀ seen n, (plus (V2.alloc (.mapIter (some bm) (kvOf out).length seen (kvOf out).length)) os n).heap[bm]? = some (.map (ents (kvOf out)) (kvOf out).length) := fun seen n => by
    rw [plus_heap (by rw [World.size_alloc]; omega), Below.heap_alloc _ _ _ hbl]; exact hbm
  have hold : ∀ x ∈ (ents (kvOf out)).toList, x.born < (kvOf out).length := fun x hx => by
    obtain ⟨i, hi, rfl⟩ := ents_entry hx
    rw [kvOf_len]; exact hi
  have hnd : ((ents (kvOf out)).toList.map (·.born)).Nodup := by
    have h3 : (ents (kvOf out)).toList = entsFrom 0 (kvOf out) := by simp [ents]
    rw [h3, ents_born]
    exact List.nodup_range'
  refine wpList_plain hg fun K' hK' => ?_
  unfold Oper.wp
  rcases run_next_at (P := Try.prog) _ o.type V2.heap.size bm (kvOf out).length (kvOf out).length seen (ents (kvOf out)) (kvOf out).length (hr seen n) (hb seen n) hold (Nat.le_refl _) with ⟨h0, hrun⟩ | ⟨e, he, w1, hw1, hrun⟩
  · simp [execOp, hop, hit, hrun, Result.andThen]
    refine hK' _ _ (hDone fun i hi => ?_)
    have h1 : (leftOf (ents (kvOf out)) seen) = #[] := Array.size_eq_zero_iff.1 h0
    unfold leftOf at h1
    rw [Array.filter_eq_empty_iff] at h1
    have h2 := h1 _ (Array.mem_def.2 (ents_mem hi))
    simpa using h2
  · obtain ⟨hem, hes⟩ : e ∈ (ents (kvOf out)).toList ∧ e.born ∉ seen.toList := by
      unfold leftOf at he
      rw [Array.mem_toList_iff, Array.mem_filter] at he
      exact ⟨by simpa using he.1, by simpa using he.2⟩
    obtain ⟨i, hi, rfl⟩ := ents_entry hem
    simp only at hes hrun
    have hset : ∀ n, Go.ChangeMaps.setBlock (plus (V2.alloc (.mapIter (some bm) (kvOf out).length seen (kvOf out).length)) os n) V2.heap.size (.mapIter (some bm) (kvOf out).length (seen.push i) (kvOf out).length) = plus (V2.alloc (.mapIter (some bm) (kvOf out).length (seen.push i) (kvOf out).length)) os n := fun n => by
      show setMap _ _ _ = _
      rw [plus_setMap (by rw [World.size_alloc]; omega), alloc_setMap_new]
    have hen := fun n' => run_entry_at (P := Try.prog) (plus (V2.alloc (.mapIter (some bm) (kvOf out).length (seen.push i) (kvOf out).length)) os n') V2.heap.size bm (kvOf out).length seen (ents (kvOf out)) (kvOf out).length ⟨nameVal out[i].bl out[i].no, out[i].val, i⟩ (hr (seen.push i) n') (hb (seen.push i) n') hem hnd
    rcases hw1 with rfl | rfl
    · rw [hset] at hrun
      simp [execOp, hop, hit, hrun, Result.andThen]
      exact hK' _ _ (hMore i hi hes n (hen n))
    · rw [plus_drew, hset] at hrun
      simp [execOp, hop, hit, hrun, Result.andThen]
      exact hK' _ _ (hMore i hi hes (n + 1) (hen (n + 1)))

theorem wpList_next_seen {ops : Array Oper} {rest : List Oper} {o : Oper} {a : Act} {Q : Exit → Act → World → Prop} {V2 : World} {bm : Nat} {out : List St} (hg : o.guard = none) (it : Operand) (hop : o.op = Op.next it false) (seen : List Nat) (os : Array Obj) (n : Nat)
    (hit : a.eval it = .pointer (some ⟨V2.heap.size, 0, none⟩)) (hbm : V2.heap[bm]? = some (.map (ents (kvOf out)) (kvOf out).length)) (hbl : bm < V2.heap.size)
    (hDone : (∀ i, i < out.length → i ∈ seen) → wpList Try.prog ops Q rest (a.put o.dst (.tuple #[.bool false])) (plus (V2.alloc (.mapIter (some bm) (kvOf out).length seen.toArray (kvOf out).length)) os n))
    (hMore : ∀ (i : Nat) (hi : i < out.length), i ∉ seen → ∀ n', (Instr.entry (.pointer (some ⟨V2.heap.size, 0, none⟩))).run Try.prog (plus (V2.alloc (.mapIter (some bm) (kvOf out).length (seen ++ [i]).toArray (kvOf out).length)) os n') = .ok (.tuple #[nameVal out[i].bl out[i].no, out[i].val]) (plus (V2.alloc (.mapIter (some bm) (kvOf out).length (seen ++ [i]).toArray (kvOf out).length)) os n') →
      wpList Try.prog ops Q rest (a.put o.dst (.tuple #[.bool true, nameVal out[i].bl out[i].no, out[i].val])) (plus (V2.alloc (.mapIter (some bm) (kvOf out).length (seen ++ [i]).toArray (kvOf out).length)) os n')) :
    wpList Try.prog ops Q (o :: rest) a (plus (V2.alloc (.mapIter (some bm) (kvOf out).length seen.toArray (kvOf out).length)) os n) := by
  refine wpList_next_list hg it hop seen.toArray os n hit hbm hbl (fun h => hDone (by simpa using h)) fun i hi hn n' hen => ?_
  rw [List.push_toArray] at hen ⊢
  exact hMore i hi (by simpa using hn) n' hen

end Go.Proofs.Ytokghdcfbbogdaa
