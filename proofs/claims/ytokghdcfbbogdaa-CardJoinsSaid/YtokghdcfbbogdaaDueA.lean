/-
  WALKS: the order by which due cards are asked: the closures of due and of the reference's.
-/
import Derived.Test.YtokghdcfbbogdaaStates
import Derived.Test.YtokghdcfbbogdaaWalkL
import Derived.Test.YtokghdcfbbogdaaStabD
import Derived.Test.YtokghdcfbbogdaaPick
namespace Go.Proofs.Ytokghdcfbbogdaa
open Go.RowKit

/-- By the day, then by the ease. -/
def byDue (x y : St) : Int := or2 (cmp3 x.du y.du) (cmp3 x.ea y.ea)

set_option maxHeartbeats 4000000 in
set_option maxRecDepth 100000 in
theorem dueLess_any (g0 : Nat) (A : Option Addr) (c : Nat) (xs : List St) (i j : Nat) (hi : i < xs.length) (hj : j < xs.length) (w : World) (hbox : w.cell? ⟨g0, 0, none⟩ = some (.slice A xs.length c)) (hA : StsAt w A xs) :
    Calls Try.prog 94 #[.int .i64 i, .int .i64 j, .pointer (some ⟨g0, 0, none⟩)] w fun e w' => e = .returned (.int .i64 (byDue xs[i] xs[j])) ∧ ∃ q os, w' = Sort.grow (w.drewN q) os := by
  obtain ⟨b, off, rfl, hb, hcell⟩ := hA (by omega)
  have hc0 := hcell i hi
  have hd0 := hcell j hj
  clear hcell hA
  generalize xs[i] = x at hc0 ⊢
  generalize xs[j] = y at hd0 ⊢
  obtain ⟨_, _, _, c3, c4, _, _, _, _⟩ := hc0
  obtain ⟨_, _, _, d3, d4, _, _, _, _⟩ := hd0
  have hiz : (i : Int) < (xs.length : Int) := by omega
  have hjz : (j : Int) < (xs.length : Int) := by omega
  unfold byDue
  go_enter Try.func94, Try.ntmps94
  go_wp2_with fail
  go_region_held3 (fun w' => w'.cell? ⟨g0, 0, none⟩ = some (.slice (some ⟨b, off, none⟩) xs.length c) ∧ w'.cell? ⟨b, off + i * 9 + 3, none⟩ = some (.int .i64 x.ea) ∧ w'.cell? ⟨b, off + i * 9 + 4, none⟩ = some (.int .i64 x.du) ∧ w'.cell? ⟨b, off + j * 9 + 3, none⟩ = some (.int .i64 y.ea) ∧ w'.cell? ⟨b, off + j * 9 + 4, none⟩ = some (.int .i64 y.du)) (go_keep)
    (first | (go_at_call 77; refine (compare_any _ _ _).mono ?_; rintro e w' ⟨rfl, rfl⟩) | (go_at_call 76; refine (or2_any _ (cmp3 x.du y.du) (cmp3 x.ea y.ea) _ ?_ ?_).mono ?_; go_simp; go_simp; rintro e w' ⟨rfl, rfl⟩))
  go_wp2
  go_ret
  exact ⟨rfl, 1, #[_], rfl⟩

set_option maxHeartbeats 4000000 in
set_option maxRecDepth 100000 in
theorem dueAtLess_any (g0 : Nat) (A : Option Addr) (c : Nat) (xs : List St) (i j : Nat) (hi : i < xs.length) (hj : j < xs.length) (w : World) (hbox : w.cell? ⟨g0, 0, none⟩ = some (.slice A xs.length c)) (hA : StsAt w A xs) :
    Calls Try.prog 95 #[.int .i64 i, .int .i64 j, .pointer (some ⟨g0, 0, none⟩)] w fun e w' => e = .returned (.int .i64 (byDue xs[i] xs[j])) ∧ ∃ q os, w' = Sort.grow (w.drewN q) os := by
  obtain ⟨b, off, rfl, hb, hcell⟩ := hA (by omega)
  have hc0 := hcell i hi
  have hd0 := hcell j hj
  clear hcell hA
  generalize xs[i] = x at hc0 ⊢
  generalize xs[j] = y at hd0 ⊢
  obtain ⟨_, _, _, c3, c4, _, _, _, _⟩ := hc0
  obtain ⟨_, _, _, d3, d4, _, _, _, _⟩ := hd0
  have hiz : (i : Int) < (xs.length : Int) := by omega
  have hjz : (j : Int) < (xs.length : Int) := by omega
  unfold byDue
  go_enter Try.func95, Try.ntmps95
  go_wp2_with fail
  go_region_held3 (fun w' => w'.cell? ⟨g0, 0, none⟩ = some (.slice (some ⟨b, off, none⟩) xs.length c) ∧ w'.cell? ⟨b, off + i * 9 + 3, none⟩ = some (.int .i64 x.ea) ∧ w'.cell? ⟨b, off + i * 9 + 4, none⟩ = some (.int .i64 x.du) ∧ w'.cell? ⟨b, off + j * 9 + 3, none⟩ = some (.int .i64 y.ea) ∧ w'.cell? ⟨b, off + j * 9 + 4, none⟩ = some (.int .i64 y.du)) (go_keep)
    (first | (go_at_call 77; refine (compare_any _ _ _).mono ?_; rintro e w' ⟨rfl, rfl⟩) | (go_at_call 76; refine (or2_any _ (cmp3 x.du y.du) (cmp3 x.ea y.ea) _ ?_ ?_).mono ?_; go_simp; go_simp; rintro e w' ⟨rfl, rfl⟩))
  go_wp2
  go_ret
  exact ⟨rfl, 1, #[_], rfl⟩

end Go.Proofs.Ytokghdcfbbogdaa
/-
  WORDS FOR MEMORY: what the call owns, behind slices.SortStableFunc; the places of the due states as a list of numbers.
-/
namespace Go.Proofs.Ytokghdcfbbogdaa
open Go.RowKit Go.Shelf Go.Lib

section
variable {α : Type} [Inhabited α] {zf : α → Int}

theorem get_bang {d : Array α} {j : Nat} (h : j < d.toList.length) : d[j]! = d.toList[j] := by
  have h2 : j < d.size := by simpa using h
  rw [getElem!_pos d j h2]; simp

theorem own_holds {W : World} {base g cap n : Nat} {e : TypeId} {d : Array α} (h : W.ownsRow base e 1 (.slice (some ⟨g, 0, none⟩) n cap) n ((d.toList.map zf).map (Value.int .i64))) : Sort.Holds (encV zf) W g 0 d := by
  intro j hj
  have hlen : d.toList.length = n := by have := h.1; simpa using this
  have hj2 : j < d.toList.length := by simpa using hj
  rcases h.2 with ⟨hv, _⟩ | ⟨g', cap', cur, hv, _, hh, hnc, _, hsz, htake⟩
  · cases hv
  · injection hv with hA _ _
    injection hA with hA
    injection hA with hA _ _
    subst hA
    rw [Nat.zero_add]
    refine ⟨?_, ?_⟩
    · rw [cell_of_row W g j cur e (0, 0) hh]
      have : (cur.toList.take (n * 1))[j]? = ((d.toList.map zf).map (Value.int .i64))[j]? := by rw [htake]
      rw [List.getElem?_take_of_lt (by omega), List.getElem?_map, List.getElem?_map, List.getElem?_eq_getElem hj2] at this
      rw [get_bang hj2]
      simpa [encV] using this
    · simp [World.frozen?, hh]

theorem own_lt {W : World} {base g cap n : Nat} {e : TypeId} {xs : List Value} (h : W.ownsRow base e 1 (.slice (some ⟨g, 0, none⟩) n cap) n xs) : base ≤ g ∧ g < W.heap.size := by
  rcases h.2 with ⟨hv, _⟩ | ⟨g', cap', cur, hv, hb, hh, _⟩
  · cases hv
  · injection hv with hA _ _
    injection hA with hA
    injection hA with hA _ _
    subst hA
    refine ⟨hb, ?_⟩
    rcases Nat.lt_or_ge g W.heap.size with hlt | hge
    · exact hlt
    · rw [Array.getElem?_eq_none hge] at hh; cases hh

theorem sortWorld_heap {W : World} {g off n : Nat} {d : Array α} {os : Array Obj} {k : Nat} (hk : k < W.heap.size) : (sortWorld (encV zf) W g off n d os).heap[k]? = if g = k then (W.heap[k]?).map (Sort.onCells (Sort.putCells (encV zf) off d)) else W.heap[k]? := by
  unfold sortWorld Sort.grow Sort.putRow Sort.mapBlock Sort.ahead
  simp only [Array.getElem?_append, Array.size_modify, if_pos hk, Array.getElem?_modify]

theorem sw_below {W w' : World} {g off base : Nat} {d : Array α} (S : SW (encV zf) W g off d w') (hg : base ≤ g) (hb : base ≤ W.heap.size) : Below base W w' := by
  obtain ⟨n, os, rfl⟩ := S
  refine ⟨rfl, rfl, rfl, ?_, fun k hk => ?_⟩
  · unfold sortWorld Sort.grow Sort.putRow Sort.mapBlock Sort.ahead; simp
  · rw [sortWorld_heap (by omega), if_neg (by omega)]

theorem put_take {d : Array α} {cur : Array Value} {n : Nat} (hd : d.size = n) (hc : n ≤ cur.size) : (Sort.putCells (encV zf) 0 d cur).toList.take n = (d.toList.map zf).map (Value.int .i64) := by
  apply List.ext_getElem?
  intro j
  by_cases hj : j < n
  · have hj2 : j < d.toList.length := by simpa using (by omega : j < d.size)
    rw [List.getElem?_take_of_lt hj, List.getElem?_map, List.getElem?_map, List.getElem?_eq_getElem hj2]
    have hj3 : j < cur.size := by omega
    have hget : (Sort.putCells (encV zf) 0 d cur)[j]? = some (encV zf d[j]!) := by
      unfold Sort.putCells
      rw [Array.getElem?_mapIdx, Array.getElem?_eq_getElem hj3]
      simp only [Option.map_some]
      rw [if_pos ⟨Nat.zero_le _, by omega⟩]; rfl
    rw [Array.getElem?_toList, hget, get_bang hj2]
    rfl
  · rw [List.getElem?_eq_none (by rw [List.length_take]; omega), List.getElem?_eq_none (by simp; omega)]

/-- What the call owns is owned still behind a sort, and holds what the sort made. -/
theorem own_sorted {W w' : World} {base g cap n : Nat} {e : TypeId} {xs : List Value} {d : Array α} (h : W.ownsRow base e 1 (.slice (some ⟨g, 0, none⟩) n cap) n xs) (S : SW (encV zf) W g 0 d w') (hd : d.size = n) :
    w'.ownsRow base e 1 (.slice (some ⟨g, 0, none⟩) n cap) n ((d.toList.map zf).map (Value.int .i64)) := by
  have hlt := own_lt h
  refine ⟨by simp [hd], .inr ?_⟩
  rcases h.2 with ⟨hv, _⟩ | ⟨g', cap', cur, hv, hb, hh, hnc, hm, hsz, _⟩
  · cases hv
  · injection hv with hA _ hcap
    injection hA with hA
    injection hA with hA _ _
    subst hA
    subst hcap
    obtain ⟨m, os, rfl⟩ := S
    refine ⟨g, cap, Sort.putCells (encV zf) 0 d cur, rfl, hb, ?_, hnc, hm, ?_, ?_⟩
    · rw [sortWorld_heap hlt.2, if_pos rfl, hh]; rfl
    · unfold Sort.putCells; simpa using hsz
    · rw [Nat.mul_one]; exact put_take hd (by omega)
end

theorem pick_mem {p : St → Bool} {xs : List St} : ∀ (k : Nat) (z : Int), z ∈ pick p xs k → ∃ i : Nat, i < k ∧ i < xs.length ∧ z = (i : Int) := by
  intro k
  induction k with
  | zero => intro z hz; simp [pick] at hz
  | succ k ih =>
    intro z hz
    unfold pick at hz
    split at hz
    · obtain ⟨i, h1, h2⟩ := ih z hz; exact ⟨i, by omega, h2⟩
    · rename_i x hx
      have hk : k < xs.length := by
        rcases Nat.lt_or_ge k xs.length with h | h
        · exact h
        · rw [List.getElem?_eq_none h] at hx; cases hx
      split at hz
      · rcases List.mem_append.1 hz with hz | hz
        · obtain ⟨i, h1, h2⟩ := ih z hz; exact ⟨i, by omega, h2⟩
        · exact ⟨k, by omega, hk, by simpa using hz⟩
      · obtain ⟨i, h1, h2⟩ := ih z hz; exact ⟨i, by omega, h2⟩

/-- The picked places as places of the list. -/
def pickFin (p : St → Bool) (xs : List St) (h : 0 < xs.length) : Array (Fin xs.length) := ((pick p xs xs.length).map fun z => (⟨z.toNat % xs.length, Nat.mod_lt _ h⟩ : Fin xs.length)).toArray
def finZ {n : Nat} (i : Fin n) : Int := ((i.val : Nat) : Int)
theorem pickFin_val (p : St → Bool) (xs : List St) (h : 0 < xs.length) : (pickFin p xs h).toList.map finZ = pick p xs xs.length := by
  unfold pickFin finZ
  simp only [List.map_map]
  conv => rhs; rw [← List.map_id (pick p xs xs.length)]
  apply List.map_congr_left
  intro z hz
  obtain ⟨i, _, hi, rfl⟩ := pick_mem _ z hz
  simp [Nat.mod_eq_of_lt hi]

/-- The places of the due states, in the order in which they are asked. -/
def dueBy (xs : List St) (i j : Fin xs.length) : Int := byDue xs[i.val] xs[j.val]
def asked (d : Int) (x : St) : Bool := decide (0 ≤ x.du ∧ x.du ≤ d ∧ x.bu < d)
def dueList (xs : List St) (d : Int) : List Int :=
  if h : 0 < xs.length then
    (@stableF _ ⟨⟨0, h⟩⟩ (ltOf (dueBy xs)) (pickFin (asked d) xs h)).toList.map finZ
  else []
theorem dueList_len (xs : List St) (d : Int) : (dueList xs d).length = (pick (asked d) xs xs.length).length := by
  unfold dueList
  split
  · rename_i h
    have := @stableF_size _ ⟨⟨0, h⟩⟩ (ltOf (dueBy xs)) (pickFin (asked d) xs h)
    rw [List.length_map, Array.length_toList, this, ← pickFin_val _ _ h, List.length_map]; rfl
  · rename_i h
    rw [show xs.length = 0 by omega]; rfl
theorem dueList_mem {xs : List St} {d : Int} {z : Int} (hz : z ∈ dueList xs d) : ∃ i : Nat, i < xs.length ∧ z = (i : Int) := by
  unfold dueList at hz
  split at hz
  · obtain ⟨i, _, rfl⟩ := List.mem_map.1 hz
    exact ⟨i.val, i.isLt, rfl⟩
  · simp at hz
theorem dueList_le (xs : List St) (d : Int) : (dueList xs d).length ≤ xs.length := by rw [dueList_len]; exact pick_le _ _ _

end Go.Proofs.Ytokghdcfbbogdaa
/-
  WALKS: slices.SortStableFunc over the places of the due states; askedFor.
-/
namespace Go.Proofs.Ytokghdcfbbogdaa
open Go.RowKit Go.Shelf Go.Lib

set_option maxHeartbeats 1600000 in
set_option maxRecDepth 100000 in
theorem sortDue_any (g0 : Nat) (A0 A : Option Addr) (c0 c n base : Nat) (xs : List St) (d : Int) (w W : World) (hA : StsAt w A0 xs) (hW : Below w.heap.size w W) (hwb : w.heap.size ≤ base) (hbW : base ≤ W.heap.size) (hg0 : g0 < base)
    (hbox : W.cell? ⟨g0, 0, none⟩ = some (.slice A0 xs.length c0)) (hl : xs.length ≤ 5000) (hown : W.ownsRow base 3 1 (.slice A n c) n ((pick (asked d) xs xs.length).map (Value.int .i64))) :
    Calls Try.prog 93 #[.slice A n c, .func (.func 94) #[] #[.pointer (some ⟨g0, 0, none⟩)]] W fun e w' =>
      e = .returned (.tuple #[]) ∧ Below base W w' ∧ w'.ownsRow base 3 1 (.slice A n c) n ((dueList xs d).map (Value.int .i64)) := by
  have hlen : (pick (asked d) xs xs.length).length = n := by have := hown.1; simpa using this
  by_cases hn : n = 0
  · subst hn
    refine (sortStable_none _ _ A c W).mono ?_
    rintro e w' ⟨rfl, rfl⟩
    have h0 : dueList xs d = [] := List.length_eq_zero_iff.1 (by rw [dueList_len, hlen])
    have h1 : pick (asked d) xs xs.length = [] := List.length_eq_zero_iff.1 hlen
    rw [h1] at hown
    exact ⟨rfl, Below.refl _ _, by rw [h0]; exact hown⟩
  · have hpos : 0 < xs.length := by have := pick_le (asked d) xs xs.length; omega
    letI : Inhabited (Fin xs.length) := ⟨⟨0, hpos⟩⟩
    obtain ⟨g, rfl⟩ : ∃ g, A = some ⟨g, 0, none⟩ := by
      rcases hown.2 with ⟨hv, h0⟩ | ⟨g, cap, cur, hv, _⟩
      · omega
      · injection hv with h1 _ _; exact ⟨g, h1⟩
    have hval := pickFin_val (asked d) xs hpos
    have hpn : n < 1000000000000 := by have := pick_le (asked d) xs xs.length; omega
    have hdl : dueList xs d = (stableF (ltOf (dueBy xs)) (pickFin (asked d) xs hpos)).toList.map finZ := by unfold dueList; rw [dif_pos hpos]
    rw [hdl]
    rw [← hval] at hown hlen
    generalize pickFin (asked d) xs hpos = p at hown hlen ⊢
    have hps : p.size = n := by simpa using hlen
    have hlt := own_lt hown
    have R : Row1 (encV finZ) W g 0 p := ⟨one_int _, own_holds hown, hlt.2⟩
    have eg : ∀ args w, (callFunc 94 args).run Try.prog w = .ok (.enter 94 args) w := enters_of Try.func94 (by kernel_rfl) rfl
    have hcmp : CmpLays1 Try.prog 94 #[.pointer (some ⟨g0, 0, none⟩)] (encV finZ) (dueBy xs) g 0 n W := by
      intro m os dk hdk x y
      have hS : SW (encV finZ) W g 0 dk (sortWorld (encV finZ) W g 0 m dk os) := ⟨m, os, rfl⟩
      have hB := sw_below hS hlt.1 hbW
      refine dueLess_any g0 A0 c0 xs x.val y.val x.isLt y.isLt _ ?_ ?_
      · rw [hB.cell (p := ⟨g0, 0, none⟩) hg0]; exact hbox
      · exact hA.below (hW.trans (hB.mono hwb))
    refine (sortStable_s _ _ (dueBy xs) g 0 c n p W eg hcmp R hps (by omega) hpn p W hps (SW.start (own_holds hown))).mono ?_
    rintro e w' ⟨rfl, hS⟩
    exact ⟨rfl, sw_below hS hlt.1 hbW, own_sorted hown hS (by rw [stableF_size]; exact hps)⟩

set_option maxHeartbeats 1600000 in
set_option maxRecDepth 100000 in
theorem sortDueAt_any (g0 : Nat) (A0 A : Option Addr) (c0 c n base : Nat) (xs : List St) (d : Int) (w W : World) (hA : StsAt w A0 xs) (hW : Below w.heap.size w W) (hwb : w.heap.size ≤ base) (hbW : base ≤ W.heap.size) (hg0 : g0 < base)
    (hbox : W.cell? ⟨g0, 0, none⟩ = some (.slice A0 xs.length c0)) (hl : xs.length ≤ 5000) (hown : W.ownsRow base 3 1 (.slice A n c) n ((pick (asked d) xs xs.length).map (Value.int .i64))) :
    Calls Try.prog 93 #[.slice A n c, .func (.func 95) #[] #[.pointer (some ⟨g0, 0, none⟩)]] W fun e w' =>
      e = .returned (.tuple #[]) ∧ Below base W w' ∧ w'.ownsRow base 3 1 (.slice A n c) n ((dueList xs d).map (Value.int .i64)) := by
  have hlen : (pick (asked d) xs xs.length).length = n := by have := hown.1; simpa using this
  by_cases hn : n = 0
  · subst hn
    refine (sortStable_none _ _ A c W).mono ?_
    rintro e w' ⟨rfl, rfl⟩
    have h0 : dueList xs d = [] := List.length_eq_zero_iff.1 (by rw [dueList_len, hlen])
    have h1 : pick (asked d) xs xs.length = [] := List.length_eq_zero_iff.1 hlen
    rw [h1] at hown
    exact ⟨rfl, Below.refl _ _, by rw [h0]; exact hown⟩
  · have hpos : 0 < xs.length := by have := pick_le (asked d) xs xs.length; omega
    letI : Inhabited (Fin xs.length) := ⟨⟨0, hpos⟩⟩
    obtain ⟨g, rfl⟩ : ∃ g, A = some ⟨g, 0, none⟩ := by
      rcases hown.2 with ⟨hv, h0⟩ | ⟨g, cap, cur, hv, _⟩
      · omega
      · injection hv with h1 _ _; exact ⟨g, h1⟩
    have hval := pickFin_val (asked d) xs hpos
    have hpn : n < 1000000000000 := by have := pick_le (asked d) xs xs.length; omega
    have hdl : dueList xs d = (stableF (ltOf (dueBy xs)) (pickFin (asked d) xs hpos)).toList.map finZ := by unfold dueList; rw [dif_pos hpos]
    rw [hdl]
    rw [← hval] at hown hlen
    generalize pickFin (asked d) xs hpos = p at hown hlen ⊢
    have hps : p.size = n := by simpa using hlen
    have hlt := own_lt hown
    have R : Row1 (encV finZ) W g 0 p := ⟨one_int _, own_holds hown, hlt.2⟩
    have eg : ∀ args w, (callFunc 95 args).run Try.prog w = .ok (.enter 95 args) w := enters_of Try.func95 (by kernel_rfl) rfl
    have hcmp : CmpLays1 Try.prog 95 #[.pointer (some ⟨g0, 0, none⟩)] (encV finZ) (dueBy xs) g 0 n W := by
      intro m os dk hdk x y
      have hS : SW (encV finZ) W g 0 dk (sortWorld (encV finZ) W g 0 m dk os) := ⟨m, os, rfl⟩
      have hB := sw_below hS hlt.1 hbW
      refine dueAtLess_any g0 A0 c0 xs x.val y.val x.isLt y.isLt _ ?_ ?_
      · rw [hB.cell (p := ⟨g0, 0, none⟩) hg0]; exact hbox
      · exact hA.below (hW.trans (hB.mono hwb))
    refine (sortStable_s _ _ (dueBy xs) g 0 c n p W eg hcmp R hps (by omega) hpn p W hps (SW.start (own_holds hown))).mono ?_
    rintro e w' ⟨rfl, hS⟩
    exact ⟨rfl, sw_below hS hlt.1 hbW, own_sorted hown hS (by rw [stableF_size]; exact hps)⟩


set_option maxHeartbeats 1600000 in
set_option maxRecDepth 100000 in
theorem askedFor_any (x : St) (d : Int) (w : World) :
    Calls Try.prog 73 #[x.val, .int .i64 d] w fun e w' => e = .returned (.bool (asked d x)) ∧ Below w.heap.size w w' := by
  have hc : (x.du < 0 ∧ asked d x = false) ∨ (0 ≤ x.du ∧ d < x.du ∧ asked d x = false) ∨ (0 ≤ x.du ∧ x.du ≤ d ∧ decide (x.bu < d) = false ∧ asked d x = false) ∨ (0 ≤ x.du ∧ x.du ≤ d ∧ decide (x.bu < d) = true ∧ asked d x = true) := by
    unfold asked
    by_cases h1 : 0 ≤ x.du
    · by_cases h2 : x.du ≤ d
      · by_cases h3 : x.bu < d
        · exact .inr (.inr (.inr ⟨h1, h2, by simpa using h3, by simp [h1, h2, h3]⟩))
        · exact .inr (.inr (.inl ⟨h1, h2, by simpa using h3, by simp [h3]⟩))
      · exact .inr (.inl ⟨h1, by omega, by simp [h2]⟩)
    · exact .inl ⟨by omega, by simp [h1]⟩
  generalize asked d x = r at hc ⊢
  obtain ⟨bl, no, st, ea, du, la, ti, lp, bu⟩ := x
  simp only [St.val] at hc ⊢
  rcases hc with ⟨h1, rfl⟩ | ⟨h1, h2, rfl⟩ | ⟨h1, h2, h3, rfl⟩ | ⟨h1, h2, h3, rfl⟩
  all_goals
    go_enter Try.func73, Try.ntmps73
    go_wp2
    go_ret
    exact ⟨rfl, by repeat (first | exact Below.refl _ _ | refine bl_plus ?_ | refine bl_alloc ?_ _ | refine bl_drew ?_)⟩

end Go.Proofs.Ytokghdcfbbogdaa
