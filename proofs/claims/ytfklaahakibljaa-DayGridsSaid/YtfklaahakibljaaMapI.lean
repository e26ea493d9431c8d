/-
  MAPS: what a look-up and a store do to a map that the call has made, whatever the type of its keys; keys that are ints.
-/
import Derived.Carry
import Derived.ChangeKeysEq
import Derived.Test.YtfklaahakibljaaInts
namespace Go.Proofs.Ytfklaahakibljaa
open Go.RowKit

section
variable {κ : Type} {enc : κ → Value}
def gEntsFrom (enc : κ → Value) (i : Nat) : List (κ × Value) → List MapEntry
  | [] => []
  | p :: ps => ⟨enc p.1, p.2, i⟩ :: gEntsFrom enc (i + 1) ps
theorem gEnts_get : ∀ (kv : List (κ × Value)) (j i : Nat) (h : i < kv.length), (gEntsFrom enc j kv)[i]? = some ⟨enc kv[i].1, kv[i].2, j + i⟩ := by
  intro kv
  induction kv with
  | nil => intro j i h; simp at h
  | cons p ps ih =>
    intro j i h
    cases i with
    | zero => simp [gEntsFrom]
    | succ i => simp only [gEntsFrom, List.getElem?_cons_succ, List.getElem_cons_succ]; rw [ih (j + 1) i (by simpa using h)]; congr 2; omega
theorem gEntsFrom_len (kv : List (κ × Value)) : ∀ j, (gEntsFrom enc j kv).length = kv.length := by
  induction kv with
  | nil => intro j; rfl
  | cons p ps ih => intro j; simp [gEntsFrom, ih]
end
section
variable {κ : Type} [DecidableEq κ]
def gFind (k : κ) : List (κ × Value) → Option Value
  | [] => none
  | p :: ps => if k = p.1 then some p.2 else gFind k ps
def gPut (k : κ) (v : Value) : List (κ × Value) → List (κ × Value)
  | [] => [(k, v)]
  | p :: ps => if k = p.1 then (p.1, v) :: ps else p :: gPut k v ps
def gEnts (enc : κ → Value) (kv : List (κ × Value)) : Array MapEntry := (gEntsFrom enc 0 kv).toArray
/-- The place of a key. -/
def gIdx (k : κ) : List (κ × Value) → Nat
  | [] => 0
  | p :: ps => if k = p.1 then 0 else gIdx k ps + 1
/-- What a map's operations ask of the type of its keys. -/
structure GKey (kt : TypeId) (enc : κ → Value) : Prop where
  find : ∀ (k : κ) (kv : List (κ × Value)) (w : World), (Instr.findKey kt (enc k) (gEntsFrom enc 0 kv)).run Try.prog w = .ok ((gFind k kv).map fun v => (gIdx k kv, v)) w
  check : ∀ (e : Bool) (k : κ) (w : World), (Instr.checkKey e 10000 kt (enc k)).run Try.prog w = .ok () w
  stays : ∀ (k : κ) (w : World), (Instr.keyThatStays (enc k) (enc k)).run Try.prog w = .ok (enc k) w

variable {enc : κ → Value}
/-- A look-up. -/
theorem lookup_g {t kt et : TypeId} (K : GKey kt enc) (ht : Try.prog.underlying t = some (.map kt et)) {z : Value} (hz : ∀ w, (zeroValue et).run Try.prog w = .ok z w) (k : κ) (r : Nat) (w : World) (kv : List (κ × Value)) (hr : w.heap[r]? = some (.map (gEnts enc kv) kv.length)) :
    (Instr.lookup t (.map (some r)) (enc k) false).run Try.prog w = .ok ((gFind k kv).getD z) w := by
  unfold Instr.lookup
  simp only [Sem.run_bind, run_underlying ht, Result.andThen_ok]
  have hg : (getObj r).run Try.prog w = .ok (.map (gEnts enc kv) kv.length) w := by simp [getObj, Sem.run, hr]
  simp only [hg, Result.andThen_ok, Sem.run_bind, pure_bind]
  rw [K.check]
  simp only [Result.andThen_ok, gEnts]
  rw [K.find]
  cases gFind k kv with
  | none => simp [hz]
  | some v => simp

theorem gIdx_lt {k : κ} {kv : List (κ × Value)} {v : Value} (h : gFind k kv = some v) : gIdx k kv < kv.length := by
  induction kv with
  | nil => simp [gFind] at h
  | cons p ps ih =>
    unfold gFind at h
    unfold gIdx
    split
    · simp
    · rename_i hne; rw [if_neg hne] at h; have := ih h; simp; omega
theorem gIdx_key {k : κ} {kv : List (κ × Value)} (h : gIdx k kv < kv.length) : kv[gIdx k kv].1 = k := by
  induction kv with
  | nil => simp at h
  | cons p ps ih =>
    by_cases hk : k = p.1
    · have : gIdx k (p :: ps) = 0 := by unfold gIdx; rw [if_pos hk]
      simp only [this, List.getElem_cons_zero]; exact hk.symm
    · have : gIdx k (p :: ps) = gIdx k ps + 1 := by rw [gIdx, if_neg hk]
      simp only [this, List.getElem_cons_succ]
      exact ih (by rw [this] at h; simpa using h)
theorem gEntsFrom_put_new {k : κ} {v : Value} {kv : List (κ × Value)} (h : gFind k kv = none) : ∀ j, gEntsFrom enc j (gPut k v kv) = gEntsFrom enc j kv ++ [⟨enc k, v, j + kv.length⟩] := by
  induction kv with
  | nil => intro j; simp [gPut, gEntsFrom]
  | cons p ps ih =>
    intro j
    unfold gFind at h
    by_cases hk : k = p.1
    · rw [if_pos hk] at h; cases h
    · rw [if_neg hk] at h
      unfold gPut
      rw [if_neg hk]
      simp only [gEntsFrom, ih h, List.cons_append, List.length_cons]
      congr 4
      omega
theorem gEntsFrom_put_old {k : κ} {v u : Value} {kv : List (κ × Value)} (h : gFind k kv = some u) : ∀ j, gEntsFrom enc j (gPut k v kv) = (gEntsFrom enc j kv).modify (gIdx k kv) fun e => { e with key := enc k, val := v } := by
  induction kv with
  | nil => simp [gFind] at h
  | cons p ps ih =>
    intro j
    unfold gFind at h
    by_cases hk : k = p.1
    · unfold gPut gIdx
      rw [if_pos hk, if_pos hk]
      subst hk
      simp [gEntsFrom, List.modify]
    · rw [if_neg hk] at h
      unfold gPut gIdx
      rw [if_neg hk, if_neg hk]
      simp only [gEntsFrom, ih h, List.modify_succ_cons]
theorem gPut_len_new {k : κ} {v : Value} {kv : List (κ × Value)} (h : gFind k kv = none) : (gPut k v kv).length = kv.length + 1 := by
  have := congrArg List.length (gEntsFrom_put_new (enc := fun _ => Value.bool true) (v := v) h 0)
  simpa [gEntsFrom_len] using this
theorem gPut_len_old {k : κ} {v u : Value} {kv : List (κ × Value)} (h : gFind k kv = some u) : (gPut k v kv).length = kv.length := by
  have := congrArg List.length (gEntsFrom_put_old (enc := fun _ => Value.bool true) (v := v) h 0)
  simpa [gEntsFrom_len] using this
end

/-! ### A block set whole -/
def setMap (w : World) (r : Nat) (o : Obj) : World := { w with heap := w.heap.setIfInBounds r o }
@[go_sem] theorem setMap_size {w : World} {r : Nat} {o : Obj} : (setMap w r o).heap.size = w.heap.size := by simp [setMap]
@[go_sem] theorem plus_setMap {w : World} {os : Array Obj} {n r : Nat} {o : Obj} (h : r < w.heap.size) : setMap (plus w os n) r o = plus (setMap w r o) os n := by
  have hh : (w.heap ++ os).setIfInBounds r o = w.heap.setIfInBounds r o ++ os := by
    apply Array.ext_getElem?
    intro i
    simp only [Array.getElem?_setIfInBounds, Array.getElem?_append, Array.size_setIfInBounds, Array.size_append]
    by_cases h1 : r = i
    · subst h1; rw [if_pos rfl, if_pos (by omega), if_pos h, if_pos rfl, if_pos h]
    · by_cases h2 : i < w.heap.size
      · rw [if_neg h1, if_pos h2, if_pos h2, if_neg h1]
      · rw [if_neg h1, if_neg h2, if_neg h2]
  simp only [setMap, plus, hh]
@[go_sem] theorem alloc_setMap_old {w : World} {c : Obj} {r : Nat} {o : Obj} (h : r < w.heap.size) : setMap (w.alloc c) r o = (setMap w r o).alloc c := by
  have hh : (w.heap.push c).setIfInBounds r o = (w.heap.setIfInBounds r o).push c := by
    apply Array.ext_getElem?
    intro i
    simp only [Array.getElem?_setIfInBounds, Array.getElem?_push, Array.size_setIfInBounds, Array.size_push]
    by_cases h1 : r = i
    · subst h1; rw [if_pos rfl, if_pos (by omega), if_neg (by omega), if_pos rfl, if_pos h]
    · rw [if_neg h1, if_neg h1]
  simp only [setMap, World.alloc, hh]
@[go_sem] theorem alloc_setMap_new {w : World} {c o : Obj} : setMap (w.alloc c) w.heap.size o = w.alloc o := by
  have hh : (w.heap.push c).setIfInBounds w.heap.size o = w.heap.push o := by
    apply Array.ext_getElem?
    intro i
    simp only [Array.getElem?_setIfInBounds, Array.getElem?_push, Array.size_push]
    by_cases h1 : w.heap.size = i
    · subst h1; rw [if_pos rfl, if_pos (by omega), if_pos rfl]
    · rw [if_neg h1, if_neg (fun e => h1 e.symm), if_neg (fun e => h1 e.symm)]
  simp only [setMap, World.alloc, hh]
@[go_sem] theorem heap_plus_old {w : World} {os : Array Obj} {n r : Nat} (h : r < w.heap.size) : (plus w os n).heap[r]? = w.heap[r]? := plus_heap h
@[go_sem] theorem heap_alloc_old' {w : World} {c : Obj} {r : Nat} (h : r < w.heap.size) : (w.alloc c).heap[r]? = w.heap[r]? := Below.heap_alloc w c r h
@[go_sem] theorem heap_alloc_new' {w : World} {c : Obj} : (w.alloc c).heap[w.heap.size]? = some c := heap_alloc_new w _

section
variable {κ : Type} [DecidableEq κ] {enc : κ → Value}
/-- A store. -/
theorem update_g {t kt et : TypeId} (K : GKey kt enc) (ht : Try.prog.underlying t = some (.map kt et)) (k : κ) (v : Value) (r : Nat) (kv : List (κ × Value)) (w : World) (hr : w.heap[r]? = some (.map (gEnts enc kv) kv.length)) :
    (Instr.mapUpdate t (.map (some r)) (enc k) v).run Try.prog w = .ok () (setMap w r (.map (gEnts enc (gPut k v kv)) (gPut k v kv).length)) := by
  have hset : ∀ o, (setObj r o).run Try.prog w = .ok () (setMap w r o) := by
    intro o
    simp only [setObj, Sem.run, hr, setMap]
  unfold Instr.mapUpdate
  have hg : (getObj r).run Try.prog w = .ok (.map (gEnts enc kv) kv.length) w := by simp [getObj, Sem.run, hr]
  simp only [Sem.run_bind, run_underlying ht, Result.andThen_ok, hg]
  rw [K.check]
  simp only [Result.andThen_ok, gEnts]
  rw [K.find]
  cases hf : gFind k kv with
  | none =>
    simp only [Option.map_none, Result.andThen_ok]
    rw [hset, gEntsFrom_put_new hf, gPut_len_new hf]
    simp
  | some u =>
    simp only [Option.map_some, Result.andThen_ok]
    have hi := gIdx_lt hf
    have hk := gIdx_key hi
    have hge := gEnts_get (enc := enc) kv 0 _ hi
    rw [hk] at hge
    have hge2 : (gEntsFrom enc 0 kv).toArray[gIdx k kv]? = some ⟨enc k, kv[gIdx k kv].2, 0 + gIdx k kv⟩ := by simpa using hge
    simp only [hge2, Option.map_some, Option.getD_some]
    rw [Sem.run_bind, K.stays]
    simp only [Result.andThen_ok]
    rw [hset, gEntsFrom_put_old hf, gPut_len_old hf]
    simp

/-! ### A set of keys -/
def gHas (k : κ) (kv : List (κ × Value)) : Bool := (gFind k kv).isSome
def gSet (kv : List (κ × Value)) : Prop := ∀ p ∈ kv, p.2 = .bool true
theorem gSet_put {k : κ} {kv : List (κ × Value)} (h : gSet kv) : gSet (gPut k (.bool true) kv) := by
  induction kv with
  | nil => intro p hp; simp [gPut] at hp; subst hp; rfl
  | cons q qs ih =>
    intro p hp
    unfold gPut at hp
    split at hp
    · rcases List.mem_cons.1 hp with rfl | hp
      · rfl
      · exact h p (List.mem_cons_of_mem _ hp)
    · rcases List.mem_cons.1 hp with rfl | hp
      · exact h _ (List.mem_cons_self ..)
      · exact ih (fun p hp => h p (List.mem_cons_of_mem _ hp)) p hp
theorem gSet_find {k : κ} {kv : List (κ × Value)} (h : gSet kv) : (gFind k kv).getD (.bool false) = .bool (gHas k kv) := by
  unfold gHas
  induction kv with
  | nil => rfl
  | cons q qs ih =>
    unfold gFind
    split
    · simp [h q (List.mem_cons_self ..)]
    · exact ih (fun p hp => h p (List.mem_cons_of_mem _ hp))
theorem gHas_put {k k' : κ} {v : Value} {kv : List (κ × Value)} : gHas k (gPut k' v kv) = (decide (k = k') || gHas k kv) := by
  unfold gHas
  induction kv with
  | nil => by_cases h : k = k' <;> simp [gPut, gFind, h]
  | cons q qs ih =>
    unfold gPut
    by_cases h' : k' = q.1
    · rw [if_pos h']
      by_cases h : k = q.1
      · simp [gFind, h, h']
      · simp [gFind, h, h']
    · rw [if_neg h']
      by_cases h : k = q.1
      · simp [gFind, h]
      · simp only [gFind, if_neg h]; exact ih
end

/-! ### Keys that are ints -/
abbrev intV (a : Int) : Value := .int .i64 a
theorem findNow_int (a : Int) : ∀ (kv : List (Int × Value)) (i j : Nat), Instr.findNow (.int .i64) (intV a) (gEntsFrom intV j kv) i = some ((gFind a kv).map fun v => (i + gIdx a kv, v)) := by
  intro kv
  induction kv with
  | nil => intro i j; simp [gEntsFrom, Instr.findNow, gFind]
  | cons p ps ih =>
    intro i j
    by_cases h : a = p.1
    · simp [gEntsFrom, Instr.findNow, Instr.sameNow, gFind, gIdx, h]
    · have hb : (a == p.1) = false := by simp [h]
      simp only [gEntsFrom, Instr.findNow, Instr.sameNow, if_true, hb, gFind, gIdx, if_neg h, ih]
      congr 2
      funext v
      simp only [Prod.mk.injEq, and_true]
      omega
theorem checkKey_int (e : Bool) (n : Nat) (a : Int) (w : World) : (Instr.checkKey e (n + 1) 3 (.int .i64 a)).run Try.prog w = .ok () w := by
  simp [Instr.checkKey, go_sem]
theorem int_key : GKey 3 intV where
  find := fun k kv w => by
    unfold Instr.findKey
    simp only [Sem.run_bind, run_underlying Try.underlying3, Result.andThen_ok]
    rw [findNow_int]
    simp
  check := fun e k w => checkKey_int e 9999 k w
  stays := fun k w => by
    have h : Instr.sameBits 10000 (intV k) (intV k) = true := by
      show Instr.sameBits (9999 + 1) _ _ = true
      simp [Instr.sameBits]
    simp [Instr.keyThatStays, h]

end Go.Proofs.Ytfklaahakibljaa
