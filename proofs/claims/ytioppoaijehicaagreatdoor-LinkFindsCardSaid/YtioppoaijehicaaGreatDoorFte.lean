/-
  WALKS: slices.IndexFunc and DeleteFunc at string, any function, at rows that the call owns.
-/
import Derived.Test.YtioppoaijehicaaGreatDoorFta
import Derived.Test.YtioppoaijehicaaGreatDoorOwnC
import Derived.Lib.SliceRun
import Derived.Lib.BufferOwn
import Derived.Laws.IdiomCopy
import Derived.Deep.DeepCutAuto
import Derived.Test.YtioppoaijehicaaGreatDoorFtb
import Derived.Test.YtioppoaijehicaaGreatDoorFtl
set_option linter.all false
namespace Go.Proofs.YtioppoaijehicaaGreatDoor
open Go.RowKit Go.Lib

theorem heap_setCellsDS (g : Nat) (t : TypeId) : ∀ (vs : List Value) (o : Nat) (w : World) (cs : Array Value), w.heap[g]? = some (.cells cs t (0, 0)) →
    ∃ cs' : Array Value, (w.setCells g o vs).heap[g]? = some (.cells cs' t (0, 0)) ∧ cs'.size = cs.size ∧ ∀ k, cs'[k]? = if o ≤ k ∧ k < o + vs.length ∧ k < cs.size then vs[k - o]? else cs[k]?
  | [], o, w, cs, h => ⟨cs, h, rfl, fun k => by rw [if_neg (by simp; omega)]⟩
  | v :: vs, o, w, cs, h => by
    obtain ⟨cs', h1, h2, h3⟩ := heap_setCellsDS g t vs (o + 1) (w.setCell ⟨g, o, none⟩ v) (cs.setIfInBounds o v) (heap_setCell_same w g o cs t v h)
    refine ⟨cs', h1, by rw [h2, Array.size_setIfInBounds], fun k => ?_⟩
    rw [h3 k, Array.size_setIfInBounds]
    simp only [List.length_cons]
    by_cases hk : k = o
    · subst hk
      rw [if_neg (by omega)]
      by_cases hs : k < cs.size
      · rw [if_pos ⟨Nat.le_refl _, by omega, hs⟩, Array.getElem?_setIfInBounds_self_of_lt hs]; simp
      · rw [if_neg (by omega), Array.getElem?_eq_none (by rw [Array.size_setIfInBounds]; omega), Array.getElem?_eq_none (by omega)]
    · rw [Array.getElem?_setIfInBounds_ne (by omega)]
      by_cases hin : o + 1 ≤ k ∧ k < o + 1 + vs.length ∧ k < cs.size
      · rw [if_pos hin, if_pos (by omega), show k - o = (k - (o + 1)) + 1 by omega, List.getElem?_cons_succ]
      · rw [if_neg hin, if_neg (by omega)]

theorem grownBy_cellsDS (g : Nat) : ∀ (vs : List Value) (o : Nat) (w : World), w.grownBy (w.setCells g o vs) (some g)
  | [], _, w => ⟨rfl, rfl, rfl, Nat.le_refl _, fun _ _ _ => rfl⟩
  | v :: vs, o, w => grownBy_trans (grownBy_setCell w g o v) (grownBy_cellsDS g vs (o + 1) _)

/-- A row of the call's own, the first n cells of a block at its head. -/
def RwS (w : World) (g c : Nat) (cur : List (ByteArray)) : Prop := ∃ cs : Array Value, w.heap[g]? = some (.cells cs 9 (0, 0)) ∧ cur.length ≤ cs.size ∧ ∀ k (h : k < cur.length), cs[k]? = some (Value.string cur[k])

theorem RwS.lt {w : World} {g c : Nat} {cur : List (ByteArray)} (h : RwS w g c cur) : g < w.heap.size := by
  obtain ⟨cs, h1, _⟩ := h
  exact (Array.getElem?_eq_some_iff.1 h1).1

theorem RwS.below {w w' : World} {g c : Nat} {cur : List (ByteArray)} (h : RwS w g c cur) (hb : Below w.heap.size w w') : RwS w' g c cur := by
  have hl := h.lt
  obtain ⟨cs, h1, h2⟩ := h
  exact ⟨cs, (hb.block g hl).trans h1, h2⟩

theorem RwS.cell {w : World} {g c : Nat} {cur : List (ByteArray)} (h : RwS w g c cur) {k : Nat} (hk : k < cur.length) : w.cell? ⟨g, k, none⟩ = some (Value.string cur[k]) ∧ w.frozen? ⟨g, k, none⟩ = false := by
  obtain ⟨cs, h1, h2, h3⟩ := h
  exact ⟨(cell_of_row w g k cs _ _ h1).trans (h3 k hk), Go.frozen_of_row w g k cs _ h1⟩

theorem RwS.set {w : World} {g c : Nat} {cur : List (ByteArray)} (h : RwS w g c cur) (i : Nat) (x : ByteArray) : RwS (w.setCell ⟨g, i, none⟩ (Value.string x)) g c (cur.set i x) := by
  obtain ⟨cs, h1, h2, h3⟩ := h
  refine ⟨cs.setIfInBounds i (Value.string x), heap_setCell_same w g i cs _ _ h1, by rw [List.length_set, Array.size_setIfInBounds]; exact h2, fun k hk => ?_⟩
  rw [List.length_set] at hk
  rw [Array.getElem?_setIfInBounds, List.getElem_set]
  by_cases e : i = k
  · subst e
    rw [if_pos rfl, if_pos (by omega), if_pos rfl]
  · rw [if_neg e, if_neg e, h3 k hk]

theorem RwS.tail {w : World} {g c : Nat} {cur : List (ByteArray)} (h : RwS w g c cur) (i : Nat) (hi : i ≤ cur.length) (vs : List Value) : RwS (w.setCells g i vs) g c (cur.take i) := by
  obtain ⟨cs, h1, h2, h3⟩ := h
  obtain ⟨cs', k1, k2, k3⟩ := heap_setCellsDS g _ vs i w cs h1
  refine ⟨cs', k1, by rw [List.length_take, k2]; omega, fun k hk => ?_⟩
  rw [List.length_take] at hk
  rw [k3 k, if_neg (by omega), h3 k (by omega), List.getElem_take]

/-- What DeleteFunc leaves: the kept ones of the first j, then whatever, then the rest. -/
structure DelS (g c : Nat) (p : (ByteArray) → Bool) (l : List (ByteArray)) (w0 : World) (i j : Nat) (w : World) : Prop where
  grown : w0.grownBy w (some g)
  cur : ∃ cur : List (ByteArray), cur.length = l.length ∧ cur.take i = (l.take j).filter p ∧ cur.drop j = l.drop j ∧ RwS w g c cur
section
variable {g c : Nat} {p : (ByteArray) → Bool} {l : List (ByteArray)} {w0 w w' : World} {i j : Nat}

theorem filter_snocS (p : (ByteArray) → Bool) (l : List (ByteArray)) (x : ByteArray) : (l ++ [x]).filter p = if p x then l.filter p ++ [x] else l.filter p := by
  rw [List.filter_append]
  cases h : p x <;> simp [h]

theorem DelS.below (h : DelS g c p l w0 i j w) (hb : Below w.heap.size w w') : DelS g c p l w0 i j w' := by
  obtain ⟨h1, cur, h2, h3, h4, h5⟩ := h
  exact ⟨Go.Lib.grownBy_below h1 hb, cur, h2, h3, h4, h5.below hb⟩

theorem DelS.skip (h : DelS g c p l w0 i j w) (hj : j < l.length) (hx : p l[j] = false) : DelS g c p l w0 i (j + 1) w := by
  obtain ⟨h1, cur, h2, h3, h4, h5⟩ := h
  refine ⟨h1, cur, h2, ?_, ?_, h5⟩
  · rw [List.take_succ_eq_append_getElem hj, filter_snocS, if_neg (by rw [hx]; decide)]; exact h3
  · rw [← List.drop_drop, ← List.drop_drop, h4]

theorem DelS.keep (h : DelS g c p l w0 i j w) (hj : j < l.length) (hij : i ≤ j) (hx : p l[j] = true) : DelS g c p l w0 (i + 1) (j + 1) (w.setCell ⟨g, i, none⟩ (Value.string l[j])) := by
  obtain ⟨h1, cur, h2, h3, h4, h5⟩ := h
  have hi : i < cur.length := by omega
  refine ⟨grownBy_trans h1 (grownBy_setCell w g i _), cur.set i l[j], by rw [List.length_set]; exact h2, ?_, ?_, h5.set i _⟩
  · rw [List.take_succ_eq_append_getElem hj, filter_snocS, if_pos hx, ← h3, List.take_succ_eq_append_getElem (by rw [List.length_set]; exact hi), List.getElem_set_self, List.take_set_of_le (Nat.le_refl _)]
  · rw [List.drop_set_of_lt (by omega), ← List.drop_drop, ← List.drop_drop, h4]

theorem DelS.cell (h : DelS g c p l w0 i j w) {k : Nat} (hk : k < l.length) (hjk : j ≤ k) : w.cell? ⟨g, k, none⟩ = some (Value.string l[k]) := by
  obtain ⟨h1, cur, h2, h3, h4, h5⟩ := h
  have hck : cur[k]? = l[k]? := by
    have := congrArg (fun l => l[k - j]?) h4
    simp only [List.getElem?_drop] at this
    rwa [show j + (k - j) = k by omega] at this
  have hkc : k < cur.length := by omega
  rw [List.getElem?_eq_getElem hkc, List.getElem?_eq_getElem hk] at hck
  rw [← Option.some.inj hck]
  exact (h5.cell hkc).1

theorem DelS.there (h : DelS g c p l w0 i j w) {k : Nat} (hk : k < l.length) : (w.cell? ⟨g, k, none⟩).isSome = true ∧ w.frozen? ⟨g, k, none⟩ = false := by
  obtain ⟨h1, cur, h2, h3, h4, h5⟩ := h
  have := h5.cell (show k < cur.length by omega)
  exact ⟨by rw [this.1]; rfl, this.2⟩

theorem DelS.start (h : RwS w g c l) (hall : ∀ k (h : k < l.length), k < i → p l[k] = true) : DelS g c p l w i i w := by
  refine ⟨⟨rfl, rfl, rfl, Nat.le_refl _, fun _ _ _ => rfl⟩, l, rfl, ?_, rfl, h⟩
  symm
  rw [List.filter_eq_self]
  intro x hx
  obtain ⟨k, hk, rfl⟩ := List.mem_iff_getElem.1 hx
  rw [List.length_take] at hk
  rw [List.getElem_take, hall k (by omega) (by omega)]

/-- The end: the tail is blanked. -/
theorem DelS.over (h : DelS g c p l w0 i l.length w) (hi : i ≤ l.length) (vs : List Value) :
    RwS (w.setCells g i vs) g c (l.filter p) ∧ w0.grownBy (w.setCells g i vs) (some g) ∧ i = (l.filter p).length := by
  obtain ⟨h1, cur, h2, h3, h4, h5⟩ := h
  rw [List.take_length] at h3
  have hil : i = (l.filter p).length := by rw [← h3, List.length_take]; omega
  refine ⟨?_, grownBy_trans h1 (grownBy_cellsDS g _ _ w), hil⟩
  rw [← h3]
  exact h5.tail i (by omega) vs
end

/-- What IndexFunc says: the first place at which the function says yes, or -1. -/
def FstS (d : (ByteArray) → Bool) (l : List (ByteArray)) (r : Int) : Prop := (∃ k : Nat, ∃ h : k < l.length, r = k ∧ d l[k] = true ∧ ∀ j (hj : j < l.length), j < k → d l[j] = false) ∨ (r = -1 ∧ ∀ j (hj : j < l.length), d l[j] = false)

def FstOutS (d : (ByteArray) → Bool) (l : List (ByteArray)) (w : World) (e : Ending) (w' : World) : Prop := ∃ r : Int, e = .returned (.int .i64 r) ∧ FstS d l r ∧ Below w.heap.size w w'

/-- The elements of a slice. -/
def RdS (w : World) (A : Option Addr) (l : List (ByteArray)) : Prop := 0 < l.length → ∃ b o, A = some ⟨b, o, none⟩ ∧ b < w.heap.size ∧ ∀ j (h : j < l.length), w.cell? ⟨b, o + j, none⟩ = some (Value.string l[j])

set_option maxHeartbeats 3200000 in
set_option maxRecDepth 100000 in
theorem indexS_any (fid : FuncId) (d : (ByteArray) → Bool) (A : Option Addr) (c : Nat) (l : List (ByteArray)) (w : World) (hA : RdS w A l) (hm : l.length ≤ 2000000) (ent : ∀ args w, (callFunc fid args).run Tryz.prog w = .ok (.enter fid args) w)
    (hF : ∀ x ∈ l, ∀ W, Below w.heap.size w W → Calls Tryz.prog fid #[Value.string x] W fun e w' => e = .returned (.bool (d x)) ∧ Below W.heap.size W w') :
    Calls Tryz.prog 151 #[.slice A l.length c, .func (.func fid) #[] #[]] w (FstOutS d l w) := by
  have HPO := hide (show ∀ (r : Int) w', FstS d l r → Below w.heap.size w w' → FstOutS d l w (.returned (.int .i64 r)) w' from fun r w' h1 h2 => ⟨r, rfl, h1, h2⟩)
  generalize FstOutS d l w = PO at *
  have HA := hide hA
  have HF := hide hF
  clear hA hF
  go_enter Tryz.func151, Tryz.ntmps151
  go_wp2
  go_loopw [8] (fun i wr => ∃ (k : Nat) (os : Array Obj) (n : Nat), k ≤ l.length ∧ i = .int .i64 k ∧ wr = plus w os n ∧ Hid (∀ j (h : j < l.length), j < k → d l[j] = false)) (fun i _ => l.length - (RowKit.intOf i).toNat)
  case atStart => exact ⟨0, #[], _, Nat.zero_le _, rfl, plus_nil.symm, hide (fun j h hj => by omega)⟩
  case round =>
    obtain ⟨k, os, n, hk, rfl, rfl, HN⟩ := hrel
    by_cases hlt : k < l.length
    · obtain ⟨b, o, rfl, hb, hv⟩ := HA.out (by omega)
      have c0 := hv k hlt
      have HC := hide (fun W hbw => HF.out l[k] (List.getElem_mem hlt) W hbw)
      have HY := hide (fun (h : d l[k] = true) => (show FstS d l k from .inl ⟨k, hlt, rfl, h, HN.out⟩))
      have HNX := hide (fun (h : d l[k] = false) j (hj : j < l.length) (hjk : j < k + 1) => (by
        rcases Nat.lt_or_ge j k with g | g
        · exact HN.out j hj g
        · obtain rfl : j = k := by omega
          exact h : d l[j] = false))
      have i1 : (k : Int) < (l.length : Int) := by omega
      clear hv HF HA HN
      generalize l[k] = x at *
      generalize d x = B at *
      cases B with
      | true =>
        have HR := hide (HY.out rfl)
        clear HNX HY
        go_wp2
        refine (HC.out _ ?hbw).mono ?_
        case hbw => exact (by repeat (first | with_reducible exact Below.refl _ _ | with_reducible refine bl_plus ?_ | with_reducible refine bl_alloc ?_ _ | with_reducible refine bl_drew ?_ | with_reducible refine bl_drewN ?_ _))
        rintro e w' ⟨rfl, hbl⟩
        obtain ⟨os1, n1, rfl⟩ := below_plus hbl
        clear hbl
        go_wp2
        exact HPO.out _ _ HR.out (by repeat (first | with_reducible exact Below.refl _ _ | with_reducible refine bl_plus ?_ | with_reducible refine bl_alloc ?_ _ | with_reducible refine bl_drew ?_ | with_reducible refine bl_drewN ?_ _))
      | false =>
        have HR := hide (HNX.out rfl)
        clear HNX HY
        go_wp2
        refine (HC.out _ ?hbw).mono ?_
        case hbw => exact (by repeat (first | with_reducible exact Below.refl _ _ | with_reducible refine bl_plus ?_ | with_reducible refine bl_alloc ?_ _ | with_reducible refine bl_drew ?_ | with_reducible refine bl_drewN ?_ _))
        rintro e w' ⟨rfl, hbl⟩
        obtain ⟨os1, n1, rfl⟩ := below_plus hbl
        clear hbl
        go_wp2
        go_roundw
        case rel => exact ⟨k + 1, _, _, hlt, by go_num, by first | rfl | (simp only [plus_alloc, plus_plus, plus_drew]; rfl), HR⟩
        case measure => simp [RowKit.intOf]; omega
    · obtain rfl : k = l.length := by omega
      have HR := hide (show FstS d l (-1) from .inr ⟨rfl, fun j hj => HN.out j hj hj⟩)
      clear HF HA HN
      go_wp2
      exact HPO.out _ _ HR.out (by repeat (first | with_reducible exact Below.refl _ _ | with_reducible refine bl_plus ?_ | with_reducible refine bl_alloc ?_ _ | with_reducible refine bl_drew ?_ | with_reducible refine bl_drewN ?_ _))

/-- What DeleteFunc hands back. -/
def DelOutS (g c : Nat) (p : (ByteArray) → Bool) (l : List (ByteArray)) (w : World) (e : Ending) (w' : World) : Prop :=
  e = .returned (.slice (some ⟨g, 0, none⟩) (l.filter p).length c) ∧ RwS w' g c (l.filter p) ∧ w.grownBy w' (some g)

set_option maxHeartbeats 6400000 in
set_option maxRecDepth 100000 in
theorem deleteS_any (fid : FuncId) (p : (ByteArray) → Bool) (ws : World) (gr c : Nat) (l : List (ByteArray)) (w : World) (hlen : l.length ≤ 2000000) (hlc : l.length ≤ c) (hcm : c ≤ maxLen) (ent : ∀ args w, (callFunc fid args).run Tryz.prog w = .ok (.enter fid args) w)
    (hr : RwS w gr c l) (hws : Below ws.heap.size ws w) (hgr : ws.heap.size ≤ gr)
    (hF : ∀ x ∈ l, ∀ W, Below ws.heap.size ws W → Calls Tryz.prog fid #[Value.string x] W fun e w' => e = .returned (.bool (!p x)) ∧ Below W.heap.size W w') :
    Calls Tryz.prog 107 #[.slice (some ⟨gr, 0, none⟩) l.length c, .func (.func fid) #[] #[]] w (DelOutS gr c p l w) := by
  have hlt := hr.lt
  unfold maxLen at hcm
  have hI := indexS_any fid (fun x => !p x) (some ⟨gr, 0, none⟩) c l w (fun _ => ⟨gr, 0, rfl, hlt, fun j hj => by rw [Nat.zero_add]; exact (hr.cell hj).1⟩) hlen ent (fun x hx W hb => hF x hx W (hws.trans (hb.mono hws.size)))
  have hPO : ∀ (i : Nat) (w' : World), i = (l.filter p).length → RwS w' gr c (l.filter p) → w.grownBy w' (some gr) → DelOutS gr c p l w (.returned (.slice (some ⟨gr, 0, none⟩) i c)) w' := by
    rintro i w' rfl h1 h2
    exact ⟨rfl, h1, h2⟩
  have HPO := hide hPO
  generalize DelOutS gr c p l w = PO at *
  have HI := hide hI
  unfold FstOutS at HI
  have HROW := hide hr
  have HWS := hide (fun (W : World) (h : w.grownBy W (some gr)) => (hws.grown h hws.size (fun k hk => by have := Option.some.inj hk; omega) : Below ws.heap.size ws W))
  have HFF := hide hF
  clear hPO hI hF hws hr
  go_enter Tryz.func107, Tryz.ntmps107
  go_upto_region 2 with (go_at_call 151; (with_reducible refine HI.out.mono ?_); rintro e w' ⟨r, rfl, hr, hbl⟩; have HBL := hide hbl; have HR := hide hr; clear hbl hr)
  rcases HR.out with ⟨q, hq, rfl, hpq, hall⟩ | ⟨rfl, hall⟩
  · have hst0 : DelS gr c p l w q (q + 1) w' := (DelS.start HROW.out (fun k hk hkq => by have := hall k hk hkq; simpa using this)).below HBL.out |>.skip hq (by simpa using hpq)
    have HS1 := hide hst0
    have hq1 : ((q : Int) == -1) = false := by simp
    clear hst0 HI HBL hpq hall HR
    go_wp2
    go_loopw [5, 6] (fun is js wr => ∃ i j : Nat, i < j ∧ j ≤ l.length ∧ is = .int .i64 i ∧ js = .int .i64 j ∧ Hid (DelS gr c p l w i j wr)) (fun _ js _ => l.length - (RowKit.intOf js).toNat)
    case atStart => exact ⟨q, q + 1, by omega, by omega, by go_num, by go_num, HS1⟩
    case round =>
      clear HS1 hq1
      obtain ⟨i, j, hij, hj, rfl, rfl, HS⟩ := hrel
      by_cases hlt2 : j < l.length
      · have c0 := HS.out.cell hlt2 (Nat.le_refl _)
        have HSK := hide (fun (W : World) (hS : DelS gr c p l w i j W) h => hS.skip hlt2 h)
        have HKP := hide (fun (W : World) (hS : DelS gr c p l w i j W) h => hS.keep hlt2 (Nat.le_of_lt hij) h)
        have HTH := hide (fun (W : World) (hS : DelS gr c p l w i j W) => hS.there (k := i) (by omega))
        have HC := hide (fun (W : World) (hS : DelS gr c p l w i j W) => HFF.out l[j] (List.getElem_mem hlt2) W (HWS.out W hS.grown))
        have i1 : (j : Int) < (l.length : Int) := by omega
        have i2 : (i : Int) < (l.length : Int) := by omega
        have hgw : gr < wr.heap.size := Nat.lt_of_lt_of_le hlt HS.out.grown.size
        generalize l[j] = y at *
        generalize p y = B at *
        cases B with
        | false =>
          have HC1 := hide (fun W hS => HC.out W hS)
          simp only [Bool.not_false] at HC1
          clear HKP HTH HC
          go_wp2
          refine (HC1.out _ ?hbw).mono ?_
          case hbw => exact HS.out.below (by repeat (first | with_reducible exact Below.refl _ _ | with_reducible refine bl_plus ?_ | with_reducible refine bl_alloc ?_ _ | with_reducible refine bl_drew ?_ | with_reducible refine bl_drewN ?_ _))
          rintro e w' ⟨rfl, hbl⟩
          have HS2 := hide (HSK.out _ ((HS.out.below (by repeat (first | with_reducible exact Below.refl _ _ | with_reducible refine bl_plus ?_ | with_reducible refine bl_alloc ?_ _ | with_reducible refine bl_drew ?_ | with_reducible refine bl_drewN ?_ _))).below hbl) (by first | rfl | trivial))
          clear hbl
          go_wp2
          go_roundw
          case rel => exact ⟨i, j + 1, by omega, hlt2, rfl, by go_num, HS2⟩
          case measure => simp [RowKit.intOf]; omega
        | true =>
          have HC1 := hide (fun W hS => HC.out W hS)
          simp only [Bool.not_true] at HC1
          obtain ⟨u0, s0⟩ := Option.isSome_iff_exists.1 (HTH.out wr HS.out).1
          have f0 := (HTH.out wr HS.out).2
          have HKK := hide (HKP.out wr HS.out (by first | rfl | trivial))
          clear HSK HC HTH HKP
          go_wp2
          refine (HC1.out _ ?hbw).mono ?_
          case hbw => exact HS.out.below (by repeat (first | with_reducible exact Below.refl _ _ | with_reducible refine bl_plus ?_ | with_reducible refine bl_alloc ?_ _ | with_reducible refine bl_drew ?_ | with_reducible refine bl_drewN ?_ _))
          rintro e w' ⟨rfl, hbl⟩
          obtain ⟨os1, n1, rfl⟩ := below_plus hbl
          clear hbl
          go_wp2
          go_roundw
          case rel => exact ⟨i + 1, j + 1, by omega, hlt2, by go_num, by go_num, hide (HKK.out.below (by repeat (first | with_reducible exact Below.refl _ _ | with_reducible refine bl_plus ?_ | with_reducible refine bl_alloc ?_ _ | with_reducible refine bl_drew ?_ | with_reducible refine bl_drewN ?_ _)))⟩
          case measure => simp [RowKit.intOf]; omega
      · have hjl : j = l.length := by omega
        subst hjl
        have hcl : ∀ ty, (Builtin.clear_ #[109] ty #[.slice (some ⟨gr, i, none⟩) (l.length - i) (c - i)]).run Tryz.prog wr = .ok (.tuple #[]) (wr.setCells gr i (List.replicate (l.length - i) (Value.string ByteArray.empty))) :=
          fun ty => Lib.run_clear_slice wr _ _ ty _ Tryz.underlying109 Tryz.zeroValue9 rfl rfl gr i _ _ (by omega) (fun k hk => (HS.out.there (k := i + k) (by omega)).1) (fun k hk => (HS.out.there (k := i + k) (by omega)).2)
        have hov := HS.out.over (by omega) (List.replicate (l.length - i) (Value.string ByteArray.empty))
        have HFIN := hide (HPO.out i _ hov.2.2 hov.1 hov.2.1)
        have i1 : (i : Int) ≤ (l.length : Int) := by omega
        have i2 : (l.length : Int) ≤ (c : Int) := by omega
        clear hov HS HROW HPO HFF HWS
        go_wp2
        exact HFIN.out
  · have hfl : l.filter p = l := by
      rw [List.filter_eq_self]
      intro x hx
      obtain ⟨k, hk, rfl⟩ := List.mem_iff_getElem.1 hx
      have := hall k hk
      simpa using this
    have HFIN := hide (fun (W : World) (hb : Below w.heap.size w W) => HPO.out l.length W (by rw [hfl]) (by rw [hfl]; exact HROW.out.below hb) (Go.Lib.grownBy_below ⟨rfl, rfl, rfl, Nat.le_refl _, fun _ _ _ => rfl⟩ hb))
    clear hfl hall HR HI HPO HROW HFF HWS
    go_wp2
    exact HFIN.out _ HBL.out

end Go.Proofs.YtioppoaijehicaaGreatDoor
/-
  WALKS: titles folded, link's way and the reference's.
-/
namespace Go.Proofs.YtioppoaijehicaaGreatDoor
open Go.RowKit Go.Lib

theorem emptyS (x : ByteArray) : (!fullS x) = x.toList.isEmpty := by
  unfold fullS
  rw [Lib.toList_data, Bool.not_not]

set_option maxHeartbeats 800000 in
theorem foldA_any (x : ByteArray) (w : World) : Calls Tryz.prog 108 #[.string x] w fun e w' => e = .returned (.bool (!fullS x)) ∧ Below w.heap.size w w' := by
  rw [emptyS]
  go_enter Tryz.func108, Tryz.ntmps108
  go_wp2
  go_ret
  exact ⟨rfl, Below.refl _ _⟩

set_option maxHeartbeats 800000 in
theorem foldB_any (x : ByteArray) (w : World) : Calls Tryz.prog 153 #[.string x] w fun e w' => e = .returned (.bool (!fullS x)) ∧ Below w.heap.size w w' := by
  rw [emptyS]
  go_enter Tryz.func153, Tryz.ntmps153
  go_wp2
  go_ret
  exact ⟨rfl, Below.refl _ _⟩

/-- The parts as Split lays them. -/
theorem rw_parts (s : ByteArray) (w : World) (c : Nat) : RwS (w.alloc (.cells ((partsS s).map Value.string).toArray 9)) w.heap.size c (partsS s) :=
  ⟨_, heap_alloc_new w _, by simp, fun k hk => by simp [hk]⟩

theorem rw_join {w : World} {g c : Nat} {xs : List ByteArray} (h : RwS w g c xs) : ∀ (j : Nat) x, xs[j]? = some x → w.cell? ⟨g, 0 + j, none⟩ = some (.string x) := fun j x hx => by
  obtain ⟨hj, rfl⟩ := List.getElem?_eq_some_iff.1 hx
  rw [Nat.zero_add]
  exact (h.cell hj).1

theorem rw_grown {w w' : World} {g c : Nat} {xs : List ByteArray} (h : RwS w g c xs) (hb : Below w.heap.size w w') : RwS w' g c xs := h.below hb

def joinS (s : ByteArray) : ByteArray := ⟨(join (((partsS s).filter fullS).map (·.data.toList)) [32]).toArray⟩

theorem joinS_list (s : ByteArray) : (joinS s).data.toList = join (keepL (partF 32 s.data.toList)) [32] := by
  unfold joinS
  rw [fullS_map, partsS_map]

theorem joinS_len (s : ByteArray) : (join (((partsS s).filter fullS).map (·.data.toList)) [32]).length ≤ s.size + 1 := by
  rw [fullS_map, partsS_map]
  exact keepL_len _

theorem joinS_size (s : ByteArray) : (joinS s).size ≤ s.size + 1 := by
  have := joinS_len s
  have e : (joinS s).size = (join (((partsS s).filter fullS).map (·.data.toList)) [32]).length := List.size_toArray
  omega

theorem foldT_prog (s : ByteArray) : joinS (lowS s) = foldT s := by
  have h := joinS_list (lowS s)
  rw [lowS_lw] at h
  unfold foldT foldL
  rw [← h]

theorem foldT_ref (s : ByteArray) : lowS (joinS s) = foldT s := by
  have h := lowS_lw (joinS s)
  rw [joinS_list, foldL_ref] at h
  unfold foldT
  rw [← h]

theorem foldT_size (s : ByteArray) : (foldT s).size ≤ s.size + 1 := by
  have := foldL_len s.data.toList
  have e : (foldT s).size = (foldL s.data.toList).length := List.size_toArray
  have e2 : s.data.toList.length = s.size := Array.length_toList
  omega

set_option maxHeartbeats 3200000 in
set_option maxRecDepth 100000 in
theorem foldTitle_any (s : ByteArray) (w : World) (hm : MaxTold w) (hs : s.size ≤ 1100000) :
    Calls Tryz.prog 74 #[.string s] w fun e w' => e = .returned (.string (foldT s)) ∧ Below w.heap.size w w' := by
  rw [← foldT_prog]
  have hsz := lowS_sz s
  have HL := hide (fun W => lowerK_any s W (by omega))
  generalize lowS s = z at *
  have HP := hide (partsS_le z)
  have HJ := hide (joinS_len z)
  have HE := hide (partsS_len z)
  go_enter Tryz.func74, Tryz.ntmps74
  go_upto_region 2 with (first | (go_at_call 106; refine (HL.out _).mono ?_; rintro e w1 ⟨rfl, hb1⟩) | (go_at_call 102; refine (Tryz.split_any z ⟨#[32]⟩ _ (maxTold_below hm hb1) (by omega) (by decide)).mono ?_; rintro e w' ⟨rfl, rfl⟩))
  have HD := hide (deleteS_any 108 fullS w1 w1.heap.size (countB z ⟨#[32]⟩ + 1) (partsS z) (w1.alloc (.cells ((splitB ⟨#[32]⟩ 0 (countB z ⟨#[32]⟩) z).map Value.string).toArray 9)) (by have := HP.out; omega) (by rw [HE.out]; exact Nat.le_refl _) (by have := HP.out; have := HE.out; unfold maxLen; omega) (enters_of Tryz.func108 (by kernel_rfl) rfl) (rw_parts z w1 _) (bl_alloc (Below.refl _ _) _) (Nat.le_refl _) (fun x _ W _ => foldA_any x W))
  have hfl := List.length_filter_le fullS (partsS z)
  have HFC := hide (show ((partsS z).filter fullS).length ≤ countB z ⟨#[32]⟩ + 1 from by have := HE.out; omega)
  have HFL := hide (show ((partsS z).filter fullS).length ≤ 1100001 from by have := HP.out; omega)
  clear hfl
  rw [HE.out] at HD
  generalize hW2 : w1.alloc (.cells ((splitB ⟨#[32]⟩ 0 (countB z ⟨#[32]⟩) z).map Value.string).toArray 9) = W2 at *
  have HB2 := hide (show Below w1.heap.size w1 W2 from by rw [← hW2]; exact bl_alloc (Below.refl _ _) _)
  clear hW2
  generalize countB z ⟨#[32]⟩ + 1 = n at *
  go_upto_region 3 with (go_at_call 107; refine HD.out.mono ?_; rintro e w3 ⟨rfl, hr, hg⟩; have HR := hide hr; have HG := hide hg; clear hr hg)
  have HB3 := hide (HB2.out.grown HG.out HB2.out.size (fun k hk => by have := Option.some.inj hk; omega))
  have hj := Tryz.join_any w1.heap.size 0 n ((partsS z).filter fullS) ⟨#[32]⟩ w3 (rw_join HR.out) HR.out.lt (by have := HFL.out; omega) HFC.out (Nat.le_trans HJ.out (by omega))
  have HJN := hide hj
  clear hj HD
  generalize ((partsS z).filter fullS).length = m at *
  go_wp2_with (go_at_call 109; refine HJN.out.mono ?_; rintro e w4 ⟨rfl, hb4⟩)
  go_ret
  exact ⟨rfl, (hb1.trans ((HB3.out.trans (hb4.mono HB3.out.size)).mono hb1.size))⟩

set_option maxHeartbeats 3200000 in
set_option maxRecDepth 100000 in
theorem foldOfTitle_any (s : ByteArray) (w : World) (hm : MaxTold w) (hs : s.size ≤ 1100000) :
    Calls Tryz.prog 111 #[.string s] w fun e w' => e = .returned (.string (foldT s)) ∧ Below w.heap.size w w' := by
  rw [← foldT_ref]
  have HL := hide (fun W => small_any (joinS s) W (by have := joinS_size s; omega))
  obtain ⟨z, hz⟩ : ∃ z, z = s := ⟨_, rfl⟩
  have hsz : z.size = s.size := by rw [hz]
  subst hz
  have HP := hide (partsS_le z)
  have HJ := hide (joinS_len z)
  have HE := hide (partsS_len z)
  go_enter Tryz.func111, Tryz.ntmps111
  obtain ⟨w1, rfl⟩ : ∃ w1, w1 = w := ⟨_, rfl⟩
  have HD := hide (deleteS_any 153 fullS w1 w1.heap.size (countB z ⟨#[32]⟩ + 1) (partsS z) (w1.alloc (.cells ((splitB ⟨#[32]⟩ 0 (countB z ⟨#[32]⟩) z).map Value.string).toArray 9)) (by have := HP.out; omega) (by rw [HE.out]; exact Nat.le_refl _) (by have := HP.out; have := HE.out; unfold maxLen; omega) (enters_of Tryz.func153 (by kernel_rfl) rfl) (rw_parts z w1 _) (bl_alloc (Below.refl _ _) _) (Nat.le_refl _) (fun x _ W _ => foldB_any x W))
  have hfl := List.length_filter_le fullS (partsS z)
  have HFC := hide (show ((partsS z).filter fullS).length ≤ countB z ⟨#[32]⟩ + 1 from by have := HE.out; omega)
  have HFL := hide (show ((partsS z).filter fullS).length ≤ 1100001 from by have := HP.out; omega)
  clear hfl
  rw [HE.out] at HD
  have HB2 := hide (show Below w1.heap.size w1 (w1.alloc (.cells ((splitB ⟨#[32]⟩ 0 (countB z ⟨#[32]⟩) z).map Value.string).toArray 9)) from bl_alloc (Below.refl _ _) _)
  go_wp2_with (first
    | (go_at_call 102; refine (Tryz.split_any z ⟨#[32]⟩ _ hm (by omega) (by decide)).mono ?_; rintro e w' ⟨rfl, rfl⟩)
    | (go_at_call 107; refine HD.out.mono ?_; rintro e w3 ⟨rfl, hr, hg⟩; have HR := hide hr; have HG := hide hg; clear hr hg; have HB3 := hide (HB2.out.grown HG.out HB2.out.size (fun k hk => by have := Option.some.inj hk; omega)); have HJN := hide (Tryz.join_any w1.heap.size 0 (countB z ⟨#[32]⟩ + 1) ((partsS z).filter fullS) ⟨#[32]⟩ w3 (rw_join HR.out) HR.out.lt (by have := HFL.out; omega) HFC.out (Nat.le_trans HJ.out (by omega))))
    | (go_at_call 109; refine HJN.out.mono ?_; rintro e w4 ⟨rfl, hb4⟩)
    | (go_at_call 152; refine (HL.out _).mono ?_; rintro e w5 ⟨rfl, hb5⟩))
  go_ret
  exact ⟨rfl, (HB3.out.trans (hb4.mono HB3.out.size)).trans (hb5.mono (Nat.le_trans HB3.out.size hb4.size))⟩

end Go.Proofs.YtioppoaijehicaaGreatDoor
