/-
  WALKS: strings.Compare; the order of properties, as slices.SortFunc asks it.
-/
import Derived.Test.YtfnooipkghfmoaaGreatDoorPzh
import Derived.Deep.RegionHeld3
import Derived.Sort.LotA
import Derived.Shelf.SlSortCmp.Insertion
set_option linter.all false
namespace Go.Proofs.YtfnooipkghfmoaaGreatDoor
open Go.RowKit Go.Lib Go.Shelf

set_option maxHeartbeats 1000000 in
set_option maxRecDepth 100000 in
theorem bytealgCompare_any (a b : ByteArray) (w : World) :
    Calls Tryz.prog 121 #[.string a, .string b] w fun e w' => e = .returned (.int .i64 (Lib.compareBytes a.data.toList b.data.toList)) ∧ w = w' := by
  go_enter Tryz.func121, Tryz.ntmps121
  go_wp2
  rw [run_callFunc_extern Tryz.func166 (by kernel_rfl) (by kernel_rfl) (by kernel_rfl) (e := Extern.BytealgCompare.compare) (by kernel_rfl), Lib.run_compareString]
  simp only [Result.andThen]
  rw [Oper.upon_value]
  go_wp2
  go_ret
  exact ⟨rfl, rfl⟩

set_option maxHeartbeats 1000000 in
theorem stringsCompare_any (a b : ByteArray) (w : World) :
    Calls Tryz.prog 74 #[.string a, .string b] w fun e w' => e = .returned (.int .i64 (Lib.compareBytes a.data.toList b.data.toList)) ∧ w = w' := by
  go_enter Tryz.func74, Tryz.ntmps74
  go_wp2_with (go_at_call 121; refine (bytealgCompare_any _ _ _).mono ?_; rintro e w' ⟨rfl, rfl⟩)
  go_ret
  exact ⟨rfl, rfl⟩

/-- A world with draws and blocks behind it. -/
def Grows (w w' : World) : Prop := ∃ q os, w' = Sort.grow (w.drewN q) os
theorem Grows.refl (w : World) : Grows w w := ⟨0, #[], by simp [Sort.grow, World.drewN]⟩
theorem Grows.alloc {a w : World} (h : Grows a w) (o : Obj) : Grows a (w.alloc o) := by
  obtain ⟨q, os, rfl⟩ := h
  exact ⟨q, os.push o, by simp [Sort.grow, World.alloc]⟩
theorem Grows.drew {a w : World} (h : Grows a w) : Grows a w.drew := by
  obtain ⟨q, os, rfl⟩ := h
  exact ⟨q + 1, os, rfl⟩
theorem Grows.drewN {a w : World} (h : Grows a w) (n : Nat) : Grows a (w.drewN n) := by
  obtain ⟨q, os, rfl⟩ := h
  exact ⟨q + n, os, by simp [Sort.grow, World.drewN, Nat.add_assoc]⟩

def byN (x y : CP) : Int := compareBytes x.n.data.toList y.n.data.toList
theorem swo_byN : Sort.SWO (ltOf byN) where
  irrefl x := by unfold ltOf byN; rw [cmpB_refl]; rfl
  trans x y z h1 h2 := by
    unfold ltOf byN at *
    simp only [decide_eq_true_eq] at *
    have h3 := cmpB_trans x.n.data.toList y.n.data.toList z.n.data.toList (by omega) (by omega)
    rcases Int.lt_or_eq_of_le h3 with h | h
    · exact h
    · have he := cmpB_eq h
      rw [he] at h1
      have := cmpB_swap y.n.data.toList z.n.data.toList
      omega
  ntrans x y z h1 h2 := by
    unfold ltOf byN at *
    simp only [decide_eq_false_iff_not] at *
    have s1 := cmpB_swap x.n.data.toList y.n.data.toList
    have s2 := cmpB_swap y.n.data.toList z.n.data.toList
    have s3 := cmpB_swap x.n.data.toList z.n.data.toList
    have h3 := cmpB_trans z.n.data.toList y.n.data.toList x.n.data.toList (by omega) (by omega)
    omega
instance : Inhabited CP := ⟨⟨⟨#[]⟩, ⟨.mk 0 0 0 ⟨#[]⟩ [], none, 0⟩⟩⟩

set_option maxHeartbeats 1600000 in
set_option maxRecDepth 100000 in
theorem lessA_any (x y : CP) (w : World) : Calls Tryz.prog 73 #[x.val, y.val] w fun e w' => e = .returned (.int .i64 (byN x y)) ∧ Grows w w' := by
  unfold byN CP.val
  generalize x.q.x.k = a1
  generalize x.q.x.i = a2
  generalize x.q.x.t = a3
  generalize x.q.x.s = a4
  generalize x.q.x.l.length = a5
  generalize y.q.x.k = b1
  generalize y.q.x.i = b2
  generalize y.q.x.t = b3
  generalize y.q.x.s = b4
  generalize y.q.x.l.length = b5
  go_enter Tryz.func73, Tryz.ntmps73
  go_wp2_with (go_at_call 74; refine (stringsCompare_any _ _ _).mono ?_; rintro e w' ⟨rfl, rfl⟩)
  go_ret
  exact ⟨rfl, (by repeat (first | exact Grows.refl _ | refine Grows.alloc ?_ _ | refine Grows.drew ?_ | refine Grows.drewN ?_ _))⟩

set_option maxHeartbeats 1600000 in
set_option maxRecDepth 100000 in
theorem lessB_any (x y : CP) (w : World) : Calls Tryz.prog 78 #[x.val, y.val] w fun e w' => e = .returned (.int .i64 (byN x y)) ∧ Grows w w' := by
  unfold byN CP.val
  generalize x.q.x.k = a1
  generalize x.q.x.i = a2
  generalize x.q.x.t = a3
  generalize x.q.x.s = a4
  generalize x.q.x.l.length = a5
  generalize y.q.x.k = b1
  generalize y.q.x.i = b2
  generalize y.q.x.t = b3
  generalize y.q.x.s = b4
  generalize y.q.x.l.length = b5
  go_enter Tryz.func78, Tryz.ntmps78
  go_wp2_with (go_at_call 74; refine (stringsCompare_any _ _ _).mono ?_; rintro e w' ⟨rfl, rfl⟩)
  go_ret
  exact ⟨rfl, (by repeat (first | exact Grows.refl _ | refine Grows.alloc ?_ _ | refine Grows.drew ?_ | refine Grows.drewN ?_ _))⟩

end Go.Proofs.YtfnooipkghfmoaaGreatDoor
