/-
  PLAIN AND WALKS: the first property with a name; what is wrong with a value, by a type; faults.
-/
import Derived.Test.YtioppoaijehicaaGreatDoorPpb
import Derived.Deep.QuietTactic
import Derived.BigQuiet
set_option linter.all false
namespace Go.Proofs.YtioppoaijehicaaGreatDoor
open Go.RowKit Go.Lib

def prIs (l : List PR) (x : ByteArray) (j : Nat) : Bool := match l[j]? with
  | some p => p.n.toList == x.toList
  | none => false

theorem prIs_at {l : List PR} {x : ByteArray} {j : Nat} (h : j < l.length) : prIs l x j = (l[j].n.toList == x.toList) := by
  unfold prIs
  rw [List.getElem?_eq_getElem h]

/-- What the reference's look-up hands back. -/
def GetOut (l : List PR) (x : ByteArray) (w : World) (e : Ending) (w' : World) : Prop :=
  Below w.heap.size w w' ∧ ((∃ (k : Nat) (h : k < l.length) (A2 : Option Addr) (c2 : Nat), firstIdx (prIs l x) l.length = some k ∧ e = .returned (.tuple #[l[k].v.arg A2 c2, .bool true]) ∧ LAt w A2 l[k].v.l) ∨
    (firstIdx (prIs l x) l.length = none ∧ e = .returned (.tuple #[.agg #[.int .i64 0, .int .i64 0, .int .i64 0, .string ⟨#[]⟩, .slice none 0 0], .bool false])))

set_option maxHeartbeats 6400000 in
set_option maxRecDepth 100000 in
theorem getOf_any (A : Option Addr) (c : Nat) (l : List PR) (x : ByteArray) (w : World) (hA : PsAt w A l) :
    Calls Tryz.prog 155 #[.slice A l.length c, .string x] w (GetOut l x w) := by
  have hm := hA.1
  unfold maxLen at hm
  have HN := hide (fun h => firstIdx_none (p := prIs l x) (n := l.length) h)
  have HF := hide (fun k h hk hn => firstIdx_some (p := prIs l x) (n := l.length) (k := k) h hk hn)
  have HA := hide hA
  clear hA
  unfold GetOut
  generalize firstIdx (prIs l x) l.length = R at *
  generalize hG : (fun (e : Ending) (w' : World) => Below w.heap.size w w' ∧ ((∃ (k : Nat) (h : k < l.length) (A2 : Option Addr) (c2 : Nat), R = some k ∧ e = .returned (.tuple #[l[k].v.arg A2 c2, .bool true]) ∧ LAt w A2 l[k].v.l) ∨
    (R = none ∧ e = .returned (.tuple #[.agg #[.int .i64 0, .int .i64 0, .int .i64 0, .string ⟨#[]⟩, .slice none 0 0], .bool false])))) = G
  have HG := hide hG
  clear hG
  go_enter Tryz.func155, Tryz.ntmps155
  go_wp2
  go_loopw [10] (fun i wr => ∃ (k : Nat) (os : Array Obj) (n : Nat), k ≤ l.length ∧ i = .int .i64 k ∧ Hid (∀ j, j < k → prIs l x j = false) ∧ wr = plus (w.alloc (.cells #[.int .i64 0, .int .i64 0, .int .i64 0, .string ⟨#[]⟩, .slice none 0 0] 116)) os n) (fun i _ => l.length - (intOf i).toNat)
  case atStart => exact ⟨0, #[], _, Nat.zero_le _, rfl, hide (fun j hj => by omega), plus_nil.symm⟩
  case round =>
    obtain ⟨q, os, n, hq, rfl, HK, rfl⟩ := hrel
    by_cases hlt : q < l.length
    · obtain ⟨b, o, rfl, hb, hv⟩ := HA.out.2 (by omega)
      obtain ⟨c0, -, c1, c2, c3, c4, A2, e2, c5, hL⟩ := (hv q hlt).cells
      have hs := prIs_at (x := x) hlt
      have hf := HF.out q HK.out
      have HNXT := hide (fun (h : prIs l x q = false) j (hj : j < q + 1) => (by
        rcases Nat.lt_or_ge j q with g | g
        · exact HK.out j g
        · obtain rfl : j = q := by omega
          exact h : prIs l x j = false))
      have HL := hide hL
      clear hv HK hL
      generalize prIs l x q = B at *
      have HY : Hid (∃ y, y = l[q]) := hide ⟨_, rfl⟩
      obtain ⟨y, hy⟩ := HY.out
      have HYE := hide hy
      rw [← hy] at c0 c1 c2 c3 c4 c5 hs
      clear hy HY
      obtain ⟨yn, ⟨k, i, t, s, yl⟩⟩ := y
      simp only [V.arg, V.k, V.i, V.t, V.s, V.l] at *
      have hs2 : (yn.toList == x.toList) = B := hs.symm
      clear hs
      cases B with
      | true =>
        have hR := hf rfl hlt
        subst hR
        go_wp2
        (try simp only [Exit.inBlock, Exit.then])
        refine bodyPost_ret (v := .tuple #[.agg #[.int .i64 k, .int .i64 i, .int .i64 t, .string s, .slice A2 yl.length e2], .bool true]) (by simp [results, Tryz.results155, go_sem]) rfl ?_
        rw [← HG.out]
        refine ⟨(by repeat (first | exact Below.refl _ _ | refine bl_plus ?_ | refine bl_alloc ?_ _ | refine bl_drew ?_ | refine bl_drewN ?_ _)), .inl ⟨q, hlt, A2, e2, rfl, ?_, HL.out⟩⟩
        rw [← HYE.out]
      | false =>
        clear hf
        go_wp2
        go_roundw
        case rel => exact ⟨q + 1, _, _, hlt, by go_num, hide (HNXT.out (by trivial)), by first | rfl | (rw [plus_alloc]) | (rw [plus_alloc, plus_plus])⟩
        case measure => simp [intOf]; omega
    · have hR : R = none := HN.out (fun j hj => HK.out j (by omega))
      subst hR
      obtain rfl : q = l.length := by omega
      go_wp2
      (try simp only [Exit.inBlock, Exit.then])
      refine bodyPost_ret (v := .tuple #[.agg #[.int .i64 0, .int .i64 0, .int .i64 0, .string ⟨#[]⟩, .slice none 0 0], .bool false]) (by simp [results, Tryz.results155, go_sem]) rfl ?_
      rw [← HG.out]
      exact ⟨(by repeat (first | exact Below.refl _ _ | refine bl_plus ?_ | refine bl_alloc ?_ _ | refine bl_drew ?_ | refine bl_drewN ?_ _)), .inr ⟨(by first | rfl | trivial), rfl⟩⟩

end Go.Proofs.YtioppoaijehicaaGreatDoor
