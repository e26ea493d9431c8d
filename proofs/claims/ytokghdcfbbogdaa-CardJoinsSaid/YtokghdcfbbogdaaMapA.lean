/-
  MAPS: what a look-up and a store do to a map that the call has made and whose keys are two ints (a struct or an array of two).
-/
import Derived.Test.YtokghdcfbbogdaaWalkF
import Derived.Carry
import Derived.ChangeKeysEq
import Derived.Test.YtokghdcfbbogdaaInts
namespace Go.Proofs.Ytokghdcfbbogdaa
open Go.RowKit

abbrev Key := Int × Int
/-- What a map holds, in the order in which its keys came. -/
abbrev KV := List (Key × Value)
def kvFind (k : Key) : KV → Option Value
  | [] => none
  | p :: ps => if k = p.1 then some p.2 else kvFind k ps
def kvPut (k : Key) (v : Value) : KV → KV
  | [] => [(k, v)]
  | p :: ps => if k = p.1 then (p.1, v) :: ps else p :: kvPut k v ps
def entsFrom (i : Nat) : KV → List MapEntry
  | [] => []
  | p :: ps => ⟨nameVal p.1.1 p.1.2, p.2, i⟩ :: entsFrom (i + 1) ps
def ents (kv : KV) : Array MapEntry := (entsFrom 0 kv).toArray

theorem equal_name (a b c d : Int) (w : World) : (Go.Op.equal 77 (nameVal a b) (nameVal c d)).run Try.prog w = .ok (decide ((a, b) = (c, d))) w := by
  unfold nameVal
  show Sem.run Try.prog (Go.Op.equalIn 10000 _ _ _) w = _
  by_cases h1 : a = c
  · by_cases h2 : b = d
    · subst h1 h2; simp [go_sem]
    · subst h1; simp [go_sem, h2]
  · simp [go_sem, h1]

theorem cellsOf_int : Try.prog.cellsOf 3 = 1 := by kernel_rfl
theorem desc_pair : Try.prog.underlying 110 = some (.array 2 3) := by kernel_rfl
theorem part_int (a b : Value) (i : Nat) (w : World) (hi : i < 2) : (part 3 #[a, b] i).run Try.prog w = .ok (#[a, b].getD i a) w := by
  have : i = 0 ∨ i = 1 := by omega
  rcases this with rfl | rfl <;> simp [go_sem]
theorem equal_pair (a b c d : Int) (w : World) : (Go.Op.equal 110 (nameVal a b) (nameVal c d)).run Try.prog w = .ok (decide ((a, b) = (c, d))) w := by
  unfold nameVal
  show Sem.run Try.prog (Go.Op.equalIn (9999 + 1) _ _ _) w = _
  obtain ⟨i0, hi, _⟩ := info_parts info_int
  rw [run_equalIn_array w 9999 _ _ desc_pair hi, cellsOf_int]
  rw [show List.range 2 = [0, 1] from rfl]
  by_cases h1 : a = c
  · by_cases h2 : b = d
    · subst h1 h2; simp [Op.eqItems, go_sem]
    · subst h1; simp [Op.eqItems, go_sem, h2]
  · simp [Op.eqItems, go_sem, h1]

theorem same_name (a b : Int) : Instr.sameBits 10000 (nameVal a b) (nameVal a b) = true := by
  show Instr.sameBits (9998 + 1 + 1) _ _ = true
  simp [nameVal, Instr.sameBits]
theorem stays_name (a b : Int) (w : World) : (Instr.keyThatStays (nameVal a b) (nameVal a b)).run Try.prog w = .ok (nameVal a b) w := by
  simp [Instr.keyThatStays, same_name]

/-- What a look-up asks of the type of a map's keys. -/
structure PairKey (kt : TypeId) : Prop where
  equal : ∀ (a b c d : Int) (w : World), (Go.Op.equal kt (nameVal a b) (nameVal c d)).run Try.prog w = .ok (decide ((a, b) = (c, d))) w
  check : ∀ (e : Bool) (a b : Int) (w : World), (Instr.checkKey e 10000 kt (nameVal a b)).run Try.prog w = .ok () w
  desc : ∃ d, Try.prog.underlying kt = some d ∧ ∀ k k', Instr.sameNow d (.agg k) k' = none

theorem check_int (e : Bool) (n : Nat) (a : Int) (w : World) : (Instr.checkKey e (n + 1) 3 (.int .i64 a)).run Try.prog w = .ok () w := by
  simp [Instr.checkKey, go_sem]
theorem pair_name : PairKey 77 where
  equal := equal_name
  check := fun e a b w => by
    unfold nameVal
    show (Instr.checkKey e (9998 + 1 + 1) _ _).run _ _ = _
    rw [Instr.checkKey]
    simp [go_sem, check_int]
  desc := ⟨_, Try.underlying77, fun k k' => rfl⟩
theorem pair_arr : PairKey 110 where
  equal := equal_pair
  check := fun e a b w => by
    unfold nameVal
    obtain ⟨i0, hi, _⟩ := info_parts info_int
    show (Instr.checkKey e (9998 + 1 + 1) _ _).run _ _ = _
    rw [Instr.checkKey]
    simp only [Sem.run_bind, run_underlying desc_pair, Result.andThen_ok]
    simp only [Std.Legacy.Range.forIn_eq_forIn_range', Std.Legacy.Range.size, Nat.sub_zero, Nat.add_one_sub_one, Nat.div_one]
    rw [show List.range' 0 2 = [0, 1] from rfl]
    simp [run_sizeOf w hi, cellsOf_int, check_int, go_sem]
  desc := ⟨_, desc_pair, fun k k' => rfl⟩

/-- The place of a key. -/
def kvIdx (k : Key) : KV → Nat
  | [] => 0
  | p :: ps => if k = p.1 then 0 else kvIdx k ps + 1

theorem findAsking_ents {kt : TypeId} (K : PairKey kt) (a b : Int) (w : World) : ∀ (kv : KV) (i j : Nat),
    (Instr.findAsking kt (nameVal a b) (entsFrom j kv) i).run Try.prog w = .ok ((kvFind (a, b) kv).map fun v => (i + kvIdx (a, b) kv, v)) w := by
  intro kv
  induction kv with
  | nil => intro i j; simp [entsFrom, Instr.findAsking, kvFind]
  | cons p ps ih =>
    intro i j
    obtain ⟨⟨c, d⟩, v⟩ := p
    simp only [entsFrom, Instr.findAsking, Sem.run_bind, K.equal, Result.andThen_ok]
    by_cases h : (a, b) = (c, d)
    · simp only [h, decide_true, if_true, Sem.run_pure, kvFind, kvIdx, Option.map_some, Nat.add_zero]
    · simp only [h, decide_false, Bool.false_eq_true, if_false, kvFind, kvIdx, ih]
      congr 2
      funext v
      simp only [Prod.mk.injEq, and_true]
      omega

theorem findKey_ents {kt : TypeId} (K : PairKey kt) (a b : Int) (w : World) (kv : KV) :
    (Instr.findKey kt (nameVal a b) (entsFrom 0 kv)).run Try.prog w = .ok ((kvFind (a, b) kv).map fun v => (kvIdx (a, b) kv, v)) w := by
  obtain ⟨d, hd, hs⟩ := K.desc
  unfold Instr.findKey
  simp only [Sem.run_bind, run_underlying hd, Result.andThen_ok]
  cases kv with
  | nil => simp [entsFrom, Instr.findNow, kvFind]
  | cons p ps =>
    have h0 : Instr.findNow d (nameVal a b) (entsFrom 0 (p :: ps)) 0 = none := by
      simp only [entsFrom, Instr.findNow, nameVal, hs]
    rw [h0]
    simp only []
    rw [findAsking_ents K]
    simp

theorem ents_empty (kv : KV) : (ents kv).isEmpty = kv.isEmpty := by cases kv <;> simp [ents, entsFrom]

/-- A look-up. -/
theorem lookup_ents {t kt et : TypeId} (K : PairKey kt) (ht : Try.prog.underlying t = some (.map kt et)) {z : Value} (hz : ∀ w, (zeroValue et).run Try.prog w = .ok z w) (a b : Int) (r : Nat) (w : World) (kv : KV) (hr : w.heap[r]? = some (.map (ents kv) kv.length)) :
    (Instr.lookup t (.map (some r)) (nameVal a b) false).run Try.prog w = .ok ((kvFind (a, b) kv).getD z) w := by
  unfold Instr.lookup
  simp only [Sem.run_bind, run_underlying ht, Result.andThen_ok]
  have hg : (getObj r).run Try.prog w = .ok (.map (ents kv) kv.length) w := by simp [getObj, Sem.run, hr]
  simp only [hg, Result.andThen_ok, Sem.run_bind, pure_bind]
  rw [K.check]
  simp only [Result.andThen_ok, ents]
  rw [findKey_ents K]
  cases kvFind (a, b) kv with
  | none => simp [hz]
  | some v => simp

theorem kvIdx_lt {k : Key} {kv : KV} {v : Value} (h : kvFind k kv = some v) : kvIdx k kv < kv.length := by
  induction kv with
  | nil => simp [kvFind] at h
  | cons p ps ih =>
    unfold kvFind at h
    unfold kvIdx
    split
    · simp
    · rename_i hne; rw [if_neg hne] at h; have := ih h; simp; omega
theorem ents_get : ∀ (kv : KV) (j i : Nat) (h : i < kv.length), (entsFrom j kv)[i]? = some ⟨nameVal kv[i].1.1 kv[i].1.2, kv[i].2, j + i⟩ := by
  intro kv
  induction kv with
  | nil => intro j i h; simp at h
  | cons p ps ih =>
    intro j i h
    cases i with
    | zero => simp [entsFrom]
    | succ i => simp only [entsFrom, List.getElem?_cons_succ, List.getElem_cons_succ]; rw [ih (j + 1) i (by simpa using h)]; congr 2; omega
theorem kvIdx_key {k : Key} {kv : KV} (h : kvIdx k kv < kv.length) : kv[kvIdx k kv].1 = k := by
  induction kv with
  | nil => simp at h
  | cons p ps ih =>
    by_cases hk : k = p.1
    · have : kvIdx k (p :: ps) = 0 := by unfold kvIdx; rw [if_pos hk]
      simp only [this, List.getElem_cons_zero]; exact hk.symm
    · have : kvIdx k (p :: ps) = kvIdx k ps + 1 := by rw [kvIdx, if_neg hk]
      simp only [this, List.getElem_cons_succ]
      exact ih (by rw [this] at h; simpa using h)
theorem entsFrom_len (kv : KV) : ∀ j, (entsFrom j kv).length = kv.length := by
  induction kv with
  | nil => intro j; rfl
  | cons p ps ih => intro j; simp [entsFrom, ih]
theorem entsFrom_put_new {k : Key} {v : Value} {kv : KV} (h : kvFind k kv = none) : ∀ j, entsFrom j (kvPut k v kv) = entsFrom j kv ++ [⟨nameVal k.1 k.2, v, j + kv.length⟩] := by
  induction kv with
  | nil => intro j; simp [kvPut, entsFrom]
  | cons p ps ih =>
    intro j
    unfold kvFind at h
    by_cases hk : k = p.1
    · rw [if_pos hk] at h; cases h
    · rw [if_neg hk] at h
      unfold kvPut
      rw [if_neg hk]
      simp only [entsFrom, ih h, List.cons_append, List.length_cons]
      congr 4
      omega
theorem entsFrom_put_old {k : Key} {v u : Value} {kv : KV} (h : kvFind k kv = some u) : ∀ j, entsFrom j (kvPut k v kv) = (entsFrom j kv).modify (kvIdx k kv) fun e => { e with key := nameVal k.1 k.2, val := v } := by
  induction kv with
  | nil => simp [kvFind] at h
  | cons p ps ih =>
    intro j
    unfold kvFind at h
    by_cases hk : k = p.1
    · unfold kvPut kvIdx
      rw [if_pos hk, if_pos hk]
      subst hk
      simp [entsFrom, List.modify]
    · rw [if_neg hk] at h
      unfold kvPut kvIdx
      rw [if_neg hk, if_neg hk]
      simp only [entsFrom, ih h, List.modify_succ_cons]
theorem kvPut_len_new {k : Key} {v : Value} {kv : KV} (h : kvFind k kv = none) : (kvPut k v kv).length = kv.length + 1 := by
  have := congrArg List.length (entsFrom_put_new (v := v) h 0)
  simpa [entsFrom_len] using this
theorem kvPut_len_old {k : Key} {v u : Value} {kv : KV} (h : kvFind k kv = some u) : (kvPut k v kv).length = kv.length := by
  have := congrArg List.length (entsFrom_put_old (v := v) h 0)
  simpa [entsFrom_len] using this

/-! ### A block set whole -/
def setMap (w : World) (r : Nat) (o : Obj) : World := { w with heap := w.heap.setIfInBounds r o }
@[go_sem] theorem setMap_size {w : World} {r : Nat} {o : Obj} : (setMap w r o).heap.size = w.heap.size := by simp [setMap]
@[go_sem] theorem plus_setMap {w : World} {os : Array Obj} {n r : Nat} {o : Obj} (h : r < w.heap.size) : setMap (plus w os n) r o = plus (setMap w r o) os n := by
  have hh : (w.heap ++ os).setIfInBounds r o = w.heap.setIfInBounds r o ++ os := by
    apply Array.ext_getElem?
    intro i
    simp only [Array.getElem?_setIfInBounds, Array.getElem?_append, Array.size_setIfInBounds, Array.size_append]
    by_cases h1 : r = i
    · subst h1; rw [if_pos rfl, if_pos (by omega), if_pos h, if_pos rfl, if_pos h]
    · by_cases h2 : i < w.heap.size
      · rw [if_neg h1, if_pos h2, if_pos h2, if_neg h1]
      · rw [if_neg h1, if_neg h2, if_neg h2]
  simp only [setMap, plus, hh]
@[go_sem] theorem alloc_setMap_old {w : World} {c : Obj} {r : Nat} {o : Obj} (h : r < w.heap.size) : setMap (w.alloc c) r o = (setMap w r o).alloc c := by
  have hh : (w.heap.push c).setIfInBounds r o = (w.heap.setIfInBounds r o).push c := by
    apply Array.ext_getElem?
    intro i
    simp only [Array.getElem?_setIfInBounds, Array.getElem?_push, Array.size_setIfInBounds, Array.size_push]
    by_cases h1 : r = i
    · subst h1; rw [if_pos rfl, if_pos (by omega), if_neg (by omega), if_pos rfl, if_pos h]
    · rw [if_neg h1, if_neg h1]
  simp only [setMap, World.alloc, hh]
@[go_sem] theorem alloc_setMap_new {w : World} {c o : Obj} : setMap (w.alloc c) w.heap.size o = w.alloc o := by
  have hh : (w.heap.push c).setIfInBounds w.heap.size o = w.heap.push o := by
    apply Array.ext_getElem?
    intro i
    simp only [Array.getElem?_setIfInBounds, Array.getElem?_push, Array.size_push]
    by_cases h1 : w.heap.size = i
    · subst h1; rw [if_pos rfl, if_pos (by omega), if_pos rfl]
    · rw [if_neg h1, if_neg (fun e => h1 e.symm), if_neg (fun e => h1 e.symm)]
  simp only [setMap, World.alloc, hh]
@[go_sem] theorem heap_plus_old {w : World} {os : Array Obj} {n r : Nat} (h : r < w.heap.size) : (plus w os n).heap[r]? = w.heap[r]? := plus_heap h
@[go_sem] theorem heap_alloc_old' {w : World} {c : Obj} {r : Nat} (h : r < w.heap.size) : (w.alloc c).heap[r]? = w.heap[r]? := Below.heap_alloc w c r h
@[go_sem] theorem heap_alloc_new' {w : World} {c : Obj} : (w.alloc c).heap[w.heap.size]? = some c := heap_alloc_new w _

/-- A store. -/
theorem update_ents {t kt et : TypeId} (K : PairKey kt) (ht : Try.prog.underlying t = some (.map kt et)) (a b : Int) (v : Value) (r : Nat) (kv : KV) (w : World) (hr : w.heap[r]? = some (.map (ents kv) kv.length)) :
    (Instr.mapUpdate t (.map (some r)) (nameVal a b) v).run Try.prog w = .ok () (setMap w r (.map (ents (kvPut (a, b) v kv)) (kvPut (a, b) v kv).length)) := by
  have hset : ∀ o, (setObj r o).run Try.prog w = .ok () (setMap w r o) := by
    intro o
    simp only [setObj, Sem.run, hr, setMap]
  unfold Instr.mapUpdate
  have hg : (getObj r).run Try.prog w = .ok (.map (ents kv) kv.length) w := by simp [getObj, Sem.run, hr]
  simp only [Sem.run_bind, run_underlying ht, Result.andThen_ok, hg]
  rw [K.check]
  simp only [Result.andThen_ok, ents]
  rw [findKey_ents K]
  cases hf : kvFind (a, b) kv with
  | none =>
    simp only [Option.map_none, Result.andThen_ok]
    rw [hset, entsFrom_put_new hf, kvPut_len_new hf]
    simp
  | some u =>
    simp only [Option.map_some, Result.andThen_ok]
    have hi := kvIdx_lt hf
    have hk := kvIdx_key hi
    have hge := ents_get kv 0 _ hi
    rw [hk] at hge
    have hge2 : (entsFrom 0 kv).toArray[kvIdx (a, b) kv]? = some ⟨nameVal a b, kv[kvIdx (a, b) kv].2, 0 + kvIdx (a, b) kv⟩ := by simpa using hge
    simp only [hge2, Option.map_some, Option.getD_some]
    rw [Sem.run_bind, stays_name]
    simp only [Result.andThen_ok]
    rw [hset, entsFrom_put_old hf, kvPut_len_old hf]
    simp

/-! ### A set of keys -/
def kvHas (k : Key) (kv : KV) : Bool := (kvFind k kv).isSome
def kvSet (kv : KV) : Prop := ∀ p ∈ kv, p.2 = .bool true
theorem kvSet_put {k : Key} {kv : KV} (h : kvSet kv) : kvSet (kvPut k (.bool true) kv) := by
  induction kv with
  | nil => intro p hp; simp [kvPut] at hp; subst hp; rfl
  | cons q qs ih =>
    intro p hp
    unfold kvPut at hp
    split at hp
    · rcases List.mem_cons.1 hp with rfl | hp
      · rfl
      · exact h p (List.mem_cons_of_mem _ hp)
    · rcases List.mem_cons.1 hp with rfl | hp
      · exact h _ (List.mem_cons_self ..)
      · exact ih (fun p hp => h p (List.mem_cons_of_mem _ hp)) p hp
theorem kvSet_find {k : Key} {kv : KV} (h : kvSet kv) : (kvFind k kv).getD (.bool false) = .bool (kvHas k kv) := by
  unfold kvHas
  induction kv with
  | nil => rfl
  | cons q qs ih =>
    unfold kvFind
    split
    · simp [h q (List.mem_cons_self ..)]
    · exact ih (fun p hp => h p (List.mem_cons_of_mem _ hp))

end Go.Proofs.Ytokghdcfbbogdaa
