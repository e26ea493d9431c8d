/-
  PLAIN: what is asked on a day.
-/
import Derived.Test.YtokghdcfbbogdaaHalf
import Derived.Test.YtokghdcfbbogdaaMapA
namespace Go.Proofs.Ytokghdcfbbogdaa
open Go.RowKit

/-- The cards of the first k reviews. -/
def seenKV (rs : List Rv) : Nat → KV
  | 0 => []
  | k + 1 => match rs[k]? with
    | none => seenKV rs k
    | some r => kvPut (r.bl, r.no) (.bool true) (seenKV rs k)
theorem seenKV_succ {rs : List Rv} {k : Nat} {r : Rv} (h : rs[k]? = some r) : seenKV rs (k + 1) = kvPut (r.bl, r.no) (.bool true) (seenKV rs k) := by simp [seenKV, h]
theorem seenKV_set (rs : List Rv) (k : Nat) : kvSet (seenKV rs k) := by
  induction k with
  | zero => intro p hp; simp [seenKV] at hp
  | succ k ih =>
    unfold seenKV
    split
    · exact ih
    · exact kvSet_put ih
/-- Of the first k reviews: how many are of the day; how many of these are the first of their card. -/
def cntAll (rs : List Rv) (d : Int) : Nat → Nat
  | 0 => 0
  | k + 1 => match rs[k]? with
    | none => cntAll rs d k
    | some r => if r.da = d then cntAll rs d k + 1 else cntAll rs d k
def cntFirst (rs : List Rv) (d : Int) : Nat → Nat
  | 0 => 0
  | k + 1 => match rs[k]? with
    | none => cntFirst rs d k
    | some r => if r.da = d ∧ kvHas (r.bl, r.no) (seenKV rs k) = false then cntFirst rs d k + 1 else cntFirst rs d k
theorem cntAll_yes {rs : List Rv} {d : Int} {k : Nat} {r : Rv} (h : rs[k]? = some r) (hd : r.da = d) : cntAll rs d (k + 1) = cntAll rs d k + 1 := by simp [cntAll, h, hd]
theorem cntAll_no {rs : List Rv} {d : Int} {k : Nat} {r : Rv} (h : rs[k]? = some r) (hd : ¬ r.da = d) : cntAll rs d (k + 1) = cntAll rs d k := by simp [cntAll, h, hd]
theorem cntFirst_yes {rs : List Rv} {d : Int} {k : Nat} {r : Rv} (h : rs[k]? = some r) (hd : r.da = d) (hk : kvHas (r.bl, r.no) (seenKV rs k) = false) : cntFirst rs d (k + 1) = cntFirst rs d k + 1 := by simp [cntFirst, h, hd, hk]
theorem cntFirst_no {rs : List Rv} {d : Int} {k : Nat} {r : Rv} (h : rs[k]? = some r) (hd : ¬ (r.da = d ∧ kvHas (r.bl, r.no) (seenKV rs k) = false)) : cntFirst rs d (k + 1) = cntFirst rs d k := by
  simp only [cntFirst, h]; rw [if_neg hd]
theorem cntAll_le (rs : List Rv) (d : Int) (k : Nat) : cntAll rs d k ≤ k := by
  induction k with
  | zero => exact Nat.le_refl _
  | succ k ih =>
    unfold cntAll
    split
    · omega
    · split <;> omega
theorem cntFirst_le (rs : List Rv) (d : Int) (k : Nat) : cntFirst rs d k ≤ k := by
  induction k with
  | zero => exact Nat.le_refl _
  | succ k ih =>
    unfold cntFirst
    split
    · omega
    · split <;> omega

/-- Never asked, and not put off. -/
def freshOn (d : Int) (x : St) : Bool := decide (x.du < 0 ∧ x.bu < d)
def tdLeft (all ba : Int) : Nat := (max (ba - all) 0).toNat
def tdOut (xs : List St) (d all ba : Int) : List Int := (dueList xs d).take (tdLeft all ba)
def tdRoom (xs : List St) (d first all bn ba : Int) : Nat := (min ((tdLeft all ba : Int) - ((tdOut xs d all ba).length : Int)) (max (bn - first) 0)).toNat
def tdTo (xs : List St) (d first all bn ba : Int) (k : Nat) : List Int := tdOut xs d all ba ++ (pick (freshOn d) xs k).take (tdRoom xs d first all bn ba)
def todayList (xs : List St) (d first all bn ba : Int) : List Int := tdTo xs d first all bn ba xs.length

theorem take_more {α : Type} {l : List α} {a : α} {n : Nat} (h : l.length < n) : (l ++ [a]).take n = l.take n ++ [a] := by
  rw [List.take_of_length_le (by simp; omega), List.take_of_length_le (by omega)]
theorem take_full {α : Type} {l m : List α} {n : Nat} (h : n ≤ l.length) : (l ++ m).take n = l.take n := by
  rw [List.take_append_of_le_length h]
theorem tdTo_yes {xs : List St} {d first all bn ba : Int} {k : Nat} {x : St} (h : xs[k]? = some x) (hp : freshOn d x = true) (hl : (pick (freshOn d) xs k).length < tdRoom xs d first all bn ba) :
    tdTo xs d first all bn ba (k + 1) = tdTo xs d first all bn ba k ++ [(k : Int)] := by
  unfold tdTo; rw [pick_yes h hp, take_more hl, List.append_assoc]
theorem tdTo_full {xs : List St} {d first all bn ba : Int} {k : Nat} {x : St} (h : xs[k]? = some x) (hl : tdRoom xs d first all bn ba ≤ (pick (freshOn d) xs k).length) :
    tdTo xs d first all bn ba (k + 1) = tdTo xs d first all bn ba k := by
  unfold tdTo
  cases hp : freshOn d x with
  | true => rw [pick_yes h hp, take_full hl]
  | false => rw [pick_no h hp]
theorem tdTo_no {xs : List St} {d first all bn ba : Int} {k : Nat} {x : St} (h : xs[k]? = some x) (hp : freshOn d x = false) : tdTo xs d first all bn ba (k + 1) = tdTo xs d first all bn ba k := by
  unfold tdTo; rw [pick_no h hp]
/-- How many more may be asked for the first time. -/
def tdRest (xs : List St) (d first all bn ba : Int) (k : Nat) : Nat := tdRoom xs d first all bn ba - (pick (freshOn d) xs k).length
theorem tdTo_len (xs : List St) (d first all bn ba : Int) (k : Nat) : (tdTo xs d first all bn ba k).length ≤ xs.length + k := by
  unfold tdTo tdOut
  have h1 := dueList_le xs d
  have h2 := pick_le (freshOn d) xs k
  simp only [List.length_append, List.length_take]
  omega
end Go.Proofs.Ytokghdcfbbogdaa
