/-
  PLAIN: the order of bytes.
-/
import Derived.Test.YtdncmjlakmkfiaaGreatDoorVal
import Derived.Test.YtdncmjlakmkfiaaGreatDoorPzf
import Derived.Test.YtdncmjlakmkfiaaGreatDoorInts
import Derived.Shelf.SlSortCmp.Insertion
import Derived.Deep.RegionHeld3
import Derived.Sort.LotA
set_option linter.all false
namespace Go.Proofs.YtdncmjlakmkfiaaGreatDoor
open Go.RowKit Go.Lib

theorem cmpB_swap : ∀ (a b : List UInt8), compareBytes b a = - compareBytes a b
  | [], [] => rfl
  | [], _ :: _ => rfl
  | _ :: _, [] => rfl
  | x :: xs, y :: ys => by
    have ih := cmpB_swap xs ys
    unfold compareBytes
    by_cases h : x < y
    · have h2 : ¬ y < x := fun h2 => UInt8.lt_irrefl x (UInt8.lt_trans h h2)
      rw [if_neg h2, if_pos h, if_pos h]; rfl
    · by_cases h2 : y < x
      · rw [if_pos h2, if_neg h, if_pos h2]
      · rw [if_neg h2, if_neg h, if_neg h, if_neg h2]; exact ih

theorem cmpB_eq {a b : List UInt8} (h : compareBytes a b = 0) : a = b := by
  rcases less_cmp a b with ⟨h1, _⟩ | ⟨h1, _⟩ | ⟨_, _, _, h1⟩
  · omega
  · omega
  · exact eq_of_beq h1

theorem cmpB_refl (a : List UInt8) : compareBytes a a = 0 := by have := cmpB_swap a a; omega

theorem cmpB_trans : ∀ (a b c : List UInt8), compareBytes a b ≤ 0 → compareBytes b c ≤ 0 → compareBytes a c ≤ 0
  | [], _, [] => fun _ _ => by simp [compareBytes]
  | [], _, _ :: _ => fun _ _ => by simp [compareBytes]
  | _ :: _, [], _ => fun h _ => by simp [compareBytes] at h
  | _ :: _, _ :: _, [] => fun _ h => by simp [compareBytes] at h
  | x :: xs, y :: ys, z :: zs => fun h1 h2 => by
    have ih := cmpB_trans xs ys zs
    unfold compareBytes at h1 h2 ⊢
    by_cases hxy : x < y
    · by_cases hyz : y < z
      · rw [if_pos (UInt8.lt_trans hxy hyz)]; decide
      · by_cases hzy : z < y
        · rw [if_neg hyz, if_pos hzy] at h2; omega
        · have : y = z := UInt8.le_antisymm (UInt8.not_lt.1 hzy) (UInt8.not_lt.1 hyz)
          subst this
          rw [if_pos hxy]; decide
    · by_cases hyx : y < x
      · rw [if_neg hxy, if_pos hyx] at h1; omega
      · have : x = y := UInt8.le_antisymm (UInt8.not_lt.1 hyx) (UInt8.not_lt.1 hxy)
        subst this
        rw [if_neg hxy, if_neg hxy] at h1
        by_cases hyz : x < z
        · rw [if_pos hyz]; decide
        · by_cases hzy : z < x
          · rw [if_neg hyz, if_pos hzy] at h2; omega
          · rw [if_neg hyz, if_neg hzy] at h2 ⊢
            exact ih h1 h2

theorem byteArray_ext {a b : ByteArray} (h : a.data.toList = b.data.toList) : a = b := by
  obtain ⟨a⟩ := a
  obtain ⟨b⟩ := b
  obtain ⟨a⟩ := a
  obtain ⟨b⟩ := b
  simp only at h
  rw [h]

end Go.Proofs.YtdncmjlakmkfiaaGreatDoor
/-
  PLAIN: the order of properties by their names; a list with a value for a name, as both sides lay it.
-/
namespace Go.Proofs.YtdncmjlakmkfiaaGreatDoor
open Go.RowKit Go.Lib

/-! ### Properties without a name, and with a value for it -/
def othersR (x : ByteArray) (l : List PR) : List PR := l.filter (fun p => !(p.n.toList == x.toList))

theorem others_map (x : ByteArray) (ps : List CP) : (others x ps).map CP.pr = othersR x (ps.map CP.pr) := by
  unfold others othersR
  rw [List.filter_map]
  rfl

def nameB (p : PR) : List UInt8 := p.n.data.toList

/-- The names are distinct. -/
def Named (l : List PR) : Prop := l.Pairwise (fun p q => p.n ≠ q.n)

/-- A list with a value for a name. -/
def WithIs (x : ByteArray) (v : V) (l r : List PR) : Prop :=
  (v.k = 0 ∧ r = othersR x l) ∨ (v.k ≠ 0 ∧ r.Perm (othersR x l ++ [⟨x, v⟩]) ∧ r.Pairwise (fun p q => ¬ compareBytes (nameB q) (nameB p) < 0))

theorem named_with {x : ByteArray} {v : V} {l : List PR} (h : Named l) : Named (othersR x l ++ [⟨x, v⟩]) := by
  unfold Named at *
  rw [List.pairwise_append]
  refine ⟨h.sublist List.filter_sublist, List.pairwise_singleton .., fun a ha b hb => ?_⟩
  rw [List.mem_singleton.1 hb]
  have := (List.mem_filter.1 ha).2
  intro e
  rw [e] at this
  simp at this

theorem WithIs.same {x : ByteArray} {v : V} {l r r' : List PR} (h : Named l) (h1 : WithIs x v l r) (h2 : WithIs x v l r') : r = r' := by
  rcases h1 with ⟨hk, rfl⟩ | ⟨hk, p1, s1⟩
  · rcases h2 with ⟨_, rfl⟩ | ⟨hk2, _⟩
    · rfl
    · exact absurd hk hk2
  · rcases h2 with ⟨hk2, _⟩ | ⟨_, p2, s2⟩
    · exact absurd hk2 hk
    · refine List.Perm.eq_of_pairwise (le := fun p q => ¬ compareBytes (nameB q) (nameB p) < 0) (fun a b hma hmb h1 h2 => ?_) s1 s2 (p1.trans p2.symm)
      have hz : compareBytes (nameB a) (nameB b) = 0 := by have := cmpB_swap (nameB a) (nameB b); omega
      have hn : a.n = b.n := byteArray_ext (cmpB_eq hz)
      have hd := named_with (x := x) (v := v) h
      unfold Named at hd
      obtain ⟨i, hi, rfl⟩ := List.getElem_of_mem (p1.mem_iff.1 hma)
      obtain ⟨j, hj, rfl⟩ := List.getElem_of_mem (p2.mem_iff.1 hmb)
      rw [List.pairwise_iff_getElem] at hd
      rcases Nat.lt_trichotomy i j with h | h | h
      · exact absurd hn (hd i j hi hj h)
      · subst h; rfl
      · exact absurd hn.symm (hd j i hj hi h)

theorem WithIs.len {x : ByteArray} {v : V} {l r : List PR} (h : WithIs x v l r) : r.length ≤ l.length + 1 := by
  have h0 : (othersR x l).length ≤ l.length := List.length_filter_le ..
  rcases h with ⟨_, rfl⟩ | ⟨_, p, _⟩
  · omega
  · have := p.length_eq
    rw [List.length_append] at this
    simp only [List.length_cons, List.length_nil] at this
    omega

/-- Properties that are right have names that rise. -/
theorem named_of {l : List PR} (h : propsErr l = 0) : Named l ∧ l.length ≤ 20 := by
  unfold propsErr at h
  by_cases h20 : 20 < l.length
  · rw [if_pos h20] at h; omega
  · rw [if_neg h20] at h
    have hall : ∀ j, j < l.length → propErrAt l j = 0 := by
      intro j
      induction j using Nat.strongRecOn with
      | ind j ih =>
        intro hj
        by_cases hz : propErrAt l j = 0
        · exact hz
        · rw [firstErr_first (fun i hi => ih i hi (by omega)) hz hj] at h
          exact h
    have hstep : ∀ j (h : j + 1 < l.length), compareBytes (nameB l[j]) (nameB l[j + 1]) < 0 := by
      intro j hj
      have h1 := hall (j + 1) hj
      rcases propErr_more hj with ⟨_, h2⟩ | ⟨_, ⟨_, h2⟩ | ⟨h2, _⟩⟩
      · omega
      · omega
      · unfold nameLe at h2
        have hc := less_cmp l[j].n.toList l[j + 1].n.toList
        unfold nameB
        rw [← ByteArray.toList_eq, ← ByteArray.toList_eq]
        simp only [Bool.or_eq_false_iff] at h2
        rcases hc with ⟨h3, _⟩ | ⟨_, _, h3, _⟩ | ⟨_, _, _, h3⟩
        · omega
        · rw [h2.1] at h3; cases h3
        · have := eq_of_beq h3
          rw [this] at h2
          simp at h2
    refine ⟨?_, by omega⟩
    unfold Named
    rw [List.pairwise_iff_getElem]
    have hlt : ∀ d i (h : i + d + 1 < l.length), compareBytes (nameB l[i]) (nameB l[i + d + 1]) < 0 := by
      intro d
      induction d with
      | zero => intro i hi; exact hstep i hi
      | succ d ih =>
        intro i hi
        have h1 := ih i (by omega)
        have h2 := hstep (i + d + 1) hi
        have h3 := cmpB_trans (nameB l[i]) (nameB l[i + d + 1]) (nameB l[i + (d + 1) + 1]) (by omega) (by
          have : i + (d + 1) + 1 = i + d + 1 + 1 := by omega
          simp only [this]
          omega)
        rcases Int.lt_or_eq_of_le h3 with h | h
        · exact h
        · have he := cmpB_eq h
          have h4 : compareBytes (nameB l[i + d + 1]) (nameB l[i]) < 0 := by
            rw [he]
            have : i + (d + 1) + 1 = i + d + 1 + 1 := by omega
            simp only [this]
            exact h2
          have := cmpB_swap (nameB l[i]) (nameB l[i + d + 1])
          omega
    intro i j hi hj hij hn
    have h1 := hlt (j - i - 1) i (by omega)
    have e : i + (j - i - 1) + 1 = j := by omega
    simp only [e] at h1
    unfold nameB at h1
    rw [hn, cmpB_refl] at h1
    omega

end Go.Proofs.YtdncmjlakmkfiaaGreatDoor
/-
  PLAIN: a world with draws and blocks behind it.
-/
namespace Go.Proofs.YtdncmjlakmkfiaaGreatDoor
open Go.RowKit Go.Shelf

/-- A world with draws and blocks behind it. -/
def Grows (w w' : World) : Prop := ∃ q os, w' = Sort.grow (w.drewN q) os

theorem Grows.refl (w : World) : Grows w w := ⟨0, #[], by simp [Sort.grow, World.drewN]⟩

theorem Grows.alloc {a w : World} (h : Grows a w) (o : Obj) : Grows a (w.alloc o) := by
  obtain ⟨q, os, rfl⟩ := h
  exact ⟨q, os.push o, by simp [Sort.grow, World.alloc]⟩

theorem Grows.drew {a w : World} (h : Grows a w) : Grows a w.drew := by
  obtain ⟨q, os, rfl⟩ := h
  exact ⟨q + 1, os, rfl⟩

theorem Grows.drewN {a w : World} (h : Grows a w) (n : Nat) : Grows a (w.drewN n) := by
  obtain ⟨q, os, rfl⟩ := h
  exact ⟨q + n, os, by simp [Sort.grow, World.drewN, Nat.add_assoc]⟩

theorem Grows.of {w : World} {os : Array Obj} {n : Nat} (h : w.drawn ≤ n) : Grows w (plus w os n) := ⟨n - w.drawn, os, by
  unfold plus Sort.grow World.drewN
  rw [show w.drawn + (n - w.drawn) = n by omega]⟩

theorem Grows.trans {a b c : World} (h : Grows a b) (g : Grows b c) : Grows a c := by
  obtain ⟨q, os, rfl⟩ := h
  obtain ⟨q2, os2, rfl⟩ := g
  exact ⟨q + q2, os ++ os2, by simp [Sort.grow, World.drewN, Nat.add_assoc]⟩

theorem Grows.below {a b : World} (h : Grows a b) : Below a.heap.size a b := by
  obtain ⟨q, os, rfl⟩ := h
  exact (show Below a.heap.size a (plus a os (a.drawn + q)) from bl_plus (Below.refl _ _))

theorem Grows.le {a b : World} (h : Grows a b) : a.drawn ≤ b.drawn := by
  obtain ⟨q, os, rfl⟩ := h
  exact Nat.le_add_right _ _

theorem Grows.mk {a b : World} (h : Below a.heap.size a b) (h2 : a.drawn ≤ b.drawn) : Grows a b := by
  obtain ⟨os, n, rfl⟩ := below_plus h
  exact Grows.of h2

end Go.Proofs.YtdncmjlakmkfiaaGreatDoor
/-
  WALKS: strings.Compare; the order of properties, as slices.SortFunc asks it.
-/
namespace Go.Proofs.YtdncmjlakmkfiaaGreatDoor
open Go.RowKit Go.Lib Go.Shelf

set_option maxHeartbeats 1000000 in
set_option maxRecDepth 100000 in
theorem bytealgCompare_any (a b : ByteArray) (w : World) :
    Calls Tryz.prog 145 #[.string a, .string b] w fun e w' => e = .returned (.int .i64 (Lib.compareBytes a.data.toList b.data.toList)) ∧ w = w' := by
  go_enter Tryz.func145, Tryz.ntmps145
  go_wp2
  rw [run_callFunc_extern Tryz.func187 (by kernel_rfl) (by kernel_rfl) (by kernel_rfl) (e := Extern.BytealgCompare.compare) (by kernel_rfl), Lib.run_compareString]
  simp only [Result.andThen]
  rw [Oper.upon_value]
  go_wp2
  go_ret
  exact ⟨rfl, rfl⟩

set_option maxHeartbeats 1000000 in
theorem stringsCompare_any (a b : ByteArray) (w : World) :
    Calls Tryz.prog 94 #[.string a, .string b] w fun e w' => e = .returned (.int .i64 (Lib.compareBytes a.data.toList b.data.toList)) ∧ w = w' := by
  go_enter Tryz.func94, Tryz.ntmps94
  go_wp2_with (go_at_call 145; refine (bytealgCompare_any _ _ _).mono ?_; rintro e w' ⟨rfl, rfl⟩)
  go_ret
  exact ⟨rfl, rfl⟩

def byN (x y : CP) : Int := compareBytes x.n.data.toList y.n.data.toList

theorem swo_byN : Sort.SWO (ltOf byN) where
  irrefl x := by unfold ltOf byN; rw [cmpB_refl]; rfl
  trans x y z h1 h2 := by
    unfold ltOf byN at *
    simp only [decide_eq_true_eq] at *
    have h3 := cmpB_trans x.n.data.toList y.n.data.toList z.n.data.toList (by omega) (by omega)
    rcases Int.lt_or_eq_of_le h3 with h | h
    · exact h
    · have he := cmpB_eq h
      rw [he] at h1
      have := cmpB_swap y.n.data.toList z.n.data.toList
      omega
  ntrans x y z h1 h2 := by
    unfold ltOf byN at *
    simp only [decide_eq_false_iff_not] at *
    have s1 := cmpB_swap x.n.data.toList y.n.data.toList
    have s2 := cmpB_swap y.n.data.toList z.n.data.toList
    have s3 := cmpB_swap x.n.data.toList z.n.data.toList
    have h3 := cmpB_trans z.n.data.toList y.n.data.toList x.n.data.toList (by omega) (by omega)
    omega
instance : Inhabited CP := ⟨⟨⟨#[]⟩, ⟨.mk 0 0 0 ⟨#[]⟩ [], none, 0⟩⟩⟩

set_option maxHeartbeats 1600000 in
set_option maxRecDepth 100000 in
theorem lessB_any (x y : CP) (w : World) : Calls Tryz.prog 93 #[x.val, y.val] w fun e w' => e = .returned (.int .i64 (byN x y)) ∧ Grows w w' := by
  unfold byN CP.val
  generalize x.q.x.k = a1
  generalize x.q.x.i = a2
  generalize x.q.x.t = a3
  generalize x.q.x.s = a4
  generalize x.q.x.l.length = a5
  generalize y.q.x.k = b1
  generalize y.q.x.i = b2
  generalize y.q.x.t = b3
  generalize y.q.x.s = b4
  generalize y.q.x.l.length = b5
  go_enter Tryz.func93, Tryz.ntmps93
  go_wp2_with (go_at_call 94; refine (stringsCompare_any _ _ _).mono ?_; rintro e w' ⟨rfl, rfl⟩)
  go_ret
  exact ⟨rfl, (by repeat (first | exact Grows.refl _ | refine Grows.alloc ?_ _ | refine Grows.drew ?_ | refine Grows.drewN ?_ _))⟩

end Go.Proofs.YtdncmjlakmkfiaaGreatDoor
