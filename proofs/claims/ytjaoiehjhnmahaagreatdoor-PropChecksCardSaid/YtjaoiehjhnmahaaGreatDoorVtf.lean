/-
  WALK: Join over a row of strings that the call owns; how long a value's text is.
-/
import Derived.Test.YtjaoiehjhnmahaaGreatDoorVtc
import Derived.Test.YtjaoiehjhnmahaaGreatDoorOwnG
import Derived.Lib.ItoaLen
set_option linter.all false
namespace Go.Proofs.YtjaoiehjhnmahaaGreatDoor
open Go.RowKit Go.Lib Cal

theorem ownK_strsJ {e : TypeId} {w : World} {base n : Nat} {A : Option Addr} {c m : Nat} {ss : List ByteArray} (h : OwnK 1 e w base (.slice A m c) n (ss.map Value.string)) : m = ss.length ∧ (0 < ss.length →
    ∃ g, A = some ⟨g, 0, none⟩ ∧ g < w.heap.size ∧ ss.length ≤ c ∧ ∀ (j : Nat) x, ss[j]? = some x → w.cell? ⟨g, 0 + j, none⟩ = some (.string x)) := by
  obtain ⟨hl, A', c', hv, h1, h2, h3⟩ := h
  injection hv with e1 e2 e3
  subst e1 e2 e3
  have hm : ss.length = m := by simpa using hl
  refine ⟨hm.symm, fun hn => ?_⟩
  rcases h3 with ⟨_, h0, _⟩ | ⟨g, cur, rfl, hg, hb, h4, h5⟩
  · omega
  · refine ⟨g, rfl, (Array.getElem?_eq_some_iff.1 hb).1, by omega, fun j x hx => ?_⟩
    obtain ⟨hj, rfl⟩ := List.getElem?_eq_some_iff.1 hx
    rw [Nat.zero_add, cell_of_row w g j cur e (0, 0) hb]
    have h6 : (cur.toList.take (m * 1))[j]? = (ss.map Value.string)[j]? := by rw [h5]
    rw [List.getElem?_take_of_lt (by omega), List.getElem?_map, List.getElem?_eq_getElem hj] at h6
    simpa using h6

set_option maxHeartbeats 400000 in
theorem joinNil_any (A : Option Addr) (c : Nat) (sep : ByteArray) (w : World) : Calls Tryz.prog 54 #[.slice A 0 c, .string sep] w fun e w' => e = .returned (.string ⟨#[]⟩) ∧ w = w' := by
  go_enter Tryz.func54, Tryz.ntmps54
  go_wp2
  go_ret
  exact ⟨rfl, rfl⟩

theorem joinOwn_any {e : TypeId} {w : World} {base n : Nat} {A : Option Addr} {c m : Nat} {ss : List ByteArray} (sep : ByteArray) (h : OwnK 1 e w base (.slice A m c) n (ss.map Value.string)) (hs : ss.length ≤ 1048576)
    (hlen : (joinB ss sep).size ≤ 140737488355328) (W : World) (hb : Below w.heap.size w W) :
    Calls Tryz.prog 54 #[.slice A m c, .string sep] W fun e w' => e = .returned (.string (joinB ss sep)) ∧ Below W.heap.size W w' := by
  obtain ⟨rfl, h2⟩ := ownK_strsJ h
  by_cases h0 : ss.length = 0
  · obtain rfl := List.eq_nil_of_length_eq_zero h0
    refine (joinNil_any A c sep W).mono ?_
    rintro e w' ⟨rfl, rfl⟩
    exact ⟨rfl, Below.refl _ _⟩
  · obtain ⟨g, rfl, hg, hc, hcell⟩ := h2 (by omega)
    exact Tryz.join_any g 0 c ss sep W (fun j x hx => (hb.cell (p := ⟨g, 0 + j, none⟩) hg).trans (hcell j x hx)) (Nat.lt_of_lt_of_le hg hb.size) (by omega) hc (by simpa [joinB, ByteArray.size] using hlen)

theorem joinTailJ_le {sep : List UInt8} {M : Nat} : ∀ {r : List (List UInt8)}, (∀ x ∈ r, x.length ≤ M) → (joinTail sep r).length ≤ r.length * (M + sep.length)
  | [], _ => by simp [joinTail]
  | x :: r, h => by
    have ih := joinTailJ_le (sep := sep) (r := r) (fun y hy => h y (List.mem_cons_of_mem _ hy))
    have hx := h x List.mem_cons_self
    have e : (joinTail sep (x :: r)).length = sep.length + x.length + (joinTail sep r).length := by
      simp [joinTail]
      omega
    rw [e, List.length_cons, Nat.add_mul, Nat.one_mul]
    omega

theorem joinJ_le {sep : List UInt8} {M : Nat} : ∀ {l : List (List UInt8)}, (∀ x ∈ l, x.length ≤ M) → (join l sep).length ≤ l.length * (M + sep.length)
  | [], _ => by simp [join_nil]
  | x :: r, h => by
    have ih := joinTailJ_le (sep := sep) (r := r) (fun y hy => h y (List.mem_cons_of_mem _ hy))
    have hx := h x List.mem_cons_self
    rw [join_cons, List.length_append, List.length_cons, Nat.add_mul, Nat.one_mul]
    omega

theorem joinB_le {ss : List ByteArray} {sep : ByteArray} {M : Nat} (h : ∀ x ∈ ss, x.size ≤ M) : (joinB ss sep).size ≤ ss.length * (M + sep.size) := by
  have := joinJ_le (sep := sep.data.toList) (M := M) (l := ss.map (·.data.toList)) (fun x hx => by
    obtain ⟨y, hy, rfl⟩ := List.mem_map.1 hx
    have := h y hy
    simpa using this)
  rw [List.length_map] at this
  unfold joinB
  generalize join (ss.map (·.data.toList)) sep.data.toList = L at *
  have e1 : (⟨L.toArray⟩ : ByteArray).size = L.length := List.size_toArray
  have e2 : sep.data.toList.length = sep.size := rfl
  rw [e1, ← e2]
  exact this

theorem numB_size {n : Int} (h0 : -9223372036854775808 ≤ n) (h1 : n ≤ 9223372036854775807) : (numB n).size ≤ 21 := by
  have := Lib.itoa_length_le n h0 h1
  unfold numB
  simpa [ByteArray.size] using this

/-- A leaf's text is short. -/
theorem V.txt1_le {v : V} (h : v.selfErr = 0) (h7 : v.k ≠ 7) : v.txt1.size ≤ 5000 := by
  have hc := V.leaf_cases h h7
  obtain ⟨k, i, t, s, l⟩ := v
  simp only [V.txt1, V.k, V.i, V.t, V.s] at *
  rcases hc with rfl | ⟨rfl, rfl | rfl⟩ | ⟨rfl, g⟩ | ⟨rfl, g⟩ | ⟨rfl, g⟩ | ⟨rfl, g, g2⟩ | ⟨rfl, g⟩
  · show (⟨#[45]⟩ : ByteArray).size ≤ 5000; decide
  · show (⟨#[110, 111]⟩ : ByteArray).size ≤ 5000; decide
  · show (⟨#[121, 101, 115]⟩ : ByteArray).size ≤ 5000; decide
  · show (numB i).size ≤ 5000
    have := numB_size (n := i) (by omega) (by omega)
    omega
  · show (((⟨#[34]⟩ : ByteArray) ++ escS s) ++ (⟨#[34]⟩ : ByteArray)).size ≤ 5000
    have := escS_size g
    rw [ByteArray.size_append, ByteArray.size_append, show (⟨#[34]⟩ : ByteArray).size = 1 from rfl]
    omega
  · show (dateS (parts i)).size ≤ 5000
    rw [show (dateS (parts i)).size = 10 from rfl]; decide
  · show ((dateS (parts i) ++ (⟨#[46, 46]⟩ : ByteArray)) ++ dateS (parts t)).size ≤ 5000
    rw [ByteArray.size_append, ByteArray.size_append, show (dateS (parts i)).size = 10 from rfl, show (dateS (parts t)).size = 10 from rfl, show (⟨#[46, 46]⟩ : ByteArray).size = 2 from rfl]; decide
  · show (((⟨#[91, 91]⟩ : ByteArray) ++ s) ++ (⟨#[93, 93]⟩ : ByteArray)).size ≤ 5000
    rw [ByteArray.size_append, ByteArray.size_append, show (⟨#[91, 91]⟩ : ByteArray).size = 2 from rfl, show (⟨#[93, 93]⟩ : ByteArray).size = 2 from rfl]
    omega

theorem itemErr_ok {x : V} (h : itemErr x = 0) : x.selfErr = 0 ∧ x.k ≠ 7 := by
  unfold itemErr at h
  by_cases hc : x.k = 0 ∨ x.k = 7
  · rw [if_pos hc] at h; omega
  · rw [if_neg hc] at h; exact ⟨h, fun e => hc (.inr e)⟩

theorem itemsErr_all {l : List V} (h : itemsErr l = 0) : ∀ x ∈ l, itemErr x = 0 := by
  intro x hx
  unfold itemsErr at h
  cases hf : l.find? (fun x => itemErr x != 0) with
  | none => simpa using List.find?_eq_none.1 hf x hx
  | some y =>
    rw [hf] at h
    have := List.find?_some hf
    simp at this
    exact absurd h this

/-- A value without an error: a leaf, or a list of leaves. -/
theorem V.err_cases {v : V} (h : v.err = 0) : v.selfErr = 0 ∧ (v.k ≠ 7 ∨ (v.k = 7 ∧ v.l.length ≤ 20 ∧ ∀ x ∈ v.l, x.selfErr = 0 ∧ x.k ≠ 7)) := by
  unfold V.err at h
  by_cases h0 : v.selfErr = 0
  · rw [if_neg (by omega)] at h
    refine ⟨h0, ?_⟩
    by_cases h7 : v.k = 7
    · exact .inr ⟨h7, (V.self_list h0 h7).2.2.2.2, fun x hx => itemErr_ok (itemsErr_all h x hx)⟩
    · exact .inl h7
  · rw [if_pos h0] at h; exact absurd h h0

end Go.Proofs.YtjaoiehjhnmahaaGreatDoor
/-
  WALK: a list as text: written.
-/
namespace Go.Proofs.YtjaoiehjhnmahaaGreatDoor
open Go.RowKit Go.Lib Cal

set_option maxHeartbeats 3200000 in
set_option maxRecDepth 100000 in
theorem written_list (i t : Int) (s : ByteArray) (l : List V) (A : Option Addr) (c : Nat) (w : World) (hp : PowTab w) (hL : LAt w A l) (hl : l.length ≤ 20) (hok : ∀ x ∈ l, x.selfErr = 0 ∧ x.k ≠ 7) :
    Calls Tryz.prog 20 #[(V.mk 7 i t s l).arg A c] w fun e w' => e = .returned (.string (((⟨#[91]⟩ : ByteArray) ++ joinB (l.map V.txt1) ⟨#[44, 32]⟩) ++ (⟨#[93]⟩ : ByteArray))) ∧ Below w.heap.size w w' := by
  have HPW := hide (fun W (hb : Below w.heap.size w W) => powTab_below hp hb)
  have HL := hide hL
  have HOK := hide hok
  obtain ⟨i0, ii, iz0, iz1, iz2⟩ := info_parts info_strR
  have HI := hide (And.intro ii (And.intro iz0 (And.intro iz1 iz2)))
  have hjs : (joinB (l.map V.txt1) ⟨#[44, 32]⟩).size ≤ 20 * 5002 := by
    have h1 := joinB_le (ss := l.map V.txt1) (sep := ⟨#[44, 32]⟩) (M := 5000) (fun x hx => by
      obtain ⟨y, hy, rfl⟩ := List.mem_map.1 hx
      exact V.txt1_le (hok y hy).1 (hok y hy).2)
    rw [List.length_map, show (⟨#[44, 32]⟩ : ByteArray).size = 2 from rfl] at h1
    exact Nat.le_trans h1 (Nat.mul_le_mul_right _ hl)
  have HJ := hide (fun (A2 : Option Addr) (c2 m : Nat) (W : World) (h : OwnK 1 9 W w.heap.size (.slice A2 m c2) l.length ((l.map V.txt1).map Value.string)) (W2 : World) (hb : Below W.heap.size W W2) => joinOwn_any (ss := l.map V.txt1) ⟨#[44, 32]⟩ h (by rw [List.length_map]; omega) (by omega) W2 hb)
  clear hp hL hok ii iz0 iz1 iz2
  generalize joinB (l.map V.txt1) ⟨#[44, 32]⟩ = J at *
  have hjs' : (J.size : Int) ≤ 100040 := by omega
  have hl' : (l.length : Int) ≤ 20 := by omega
  simp only [V.arg, V.k, V.i, V.t, V.s, V.l]
  go_enter Tryz.func20, Tryz.ntmps20
  go_wp2_with fail
  go_loopw [9, 73] (fun v iv wr => ∃ (q : Nat) (A2 : Option Addr) (c2 : Nat), q ≤ l.length ∧ iv = .int .i64 q ∧ v = .slice A2 q c2 ∧ Hid (OwnK 1 9 wr w.heap.size (.slice A2 q c2) q (((l.take q).map V.txt1).map Value.string)) ∧ Hid (Below w.heap.size w wr)) (fun _ iv _ => l.length - (intOf iv).toNat)
  case atStart => exact ⟨0, none, 0, Nat.zero_le _, rfl, rfl, hide OwnK.empty, hide (by repeat (first | exact Below.refl _ _ | with_reducible refine bl_plus ?_ | with_reducible refine bl_alloc ?_ _ | with_reducible refine bl_drew ?_ | with_reducible refine bl_drewN ?_ _))⟩
  case round =>
    obtain ⟨q, A2, c2, hq, rfl, rfl, HO, HB⟩ := hrel
    by_cases hlt : q < l.length
    · have hLw := HL.out.below HB.out
      obtain ⟨b, o, rfl, hb, hv⟩ := hLw.2 (by omega)
      obtain ⟨d0, d1, d2, d3, A3, e3, d4, hL2⟩ := VAt_iff.1 (hv q hlt)
      have HOKQ := hide (HOK.out l[q] (List.getElem_mem hlt))
      have HNX := hide (show ((l.take (q + 1)).map V.txt1).map Value.string = ((l.take q).map V.txt1).map Value.string ++ [.string l[q].txt1] from by rw [List.take_add_one, List.getElem?_eq_getElem hlt, List.map_append, List.map_append]; rfl)
      have HS := hide (fun W (hb : Below w.heap.size w W) => written_leaf l[q] A3 e3 W (HPW.out W hb) HOKQ.out.1 HOKQ.out.2)
      clear hv hL2 hLw
      generalize l[q].txt1 = T at *
      generalize l[q] = x at *
      obtain ⟨xk, xi, xt, xs, xl⟩ := x
      simp only [V.arg, V.k, V.i, V.t, V.s, V.l] at *
      go_wp2_with (first | (go_at_call 20; with_reducible refine (HS.out _ ?hb).mono ?_; (case hb => exact Below.trans HB.out (Below.mono (by repeat (first | exact Below.refl _ _ | with_reducible refine bl_plus ?_ | with_reducible refine bl_alloc ?_ _ | with_reducible refine bl_drew ?_ | with_reducible refine bl_drewN ?_ _)) HB.out.size)); rintro e w' ⟨rfl, hbl⟩; obtain ⟨os1, n1, rfl⟩ := below_plus hbl; clear hbl) | (at_builtin; go_loud (refine wpList_append_k rfl (.tmp 77) (.tmp 80) rfl rfl Tryz.underlying61 HI.out.1 HI.out.2.1 HI.out.2.2.1 (by decide) rfl (by have := HI.out.2.2.2; omega) w.heap.size q (.slice A2 q c2) (((l.take q).map V.txt1).map Value.string) [.string T] _ rfl (by repeat (first | with_reducible exact HO.out | with_reducible refine ownK_alloc ?_ _ | with_reducible refine ownK_plus ?_ _ _ | with_reducible refine ownK_drew ?_ | with_reducible refine ownK_drewN ?_ _)) rfl (by intro u hu; simp only [List.mem_cons, List.not_mem_nil, or_false] at hu; subst hu; rfl) rfl (newN_cells (cs := [.string T]) (by simp only [World.size_alloc, plus_size, World.drew])) (by omega) (by have := HB.out.size; simp only [World.size_alloc, plus_size, World.drew]; omega) ?_; intro v' w1 hown1 hgr1 hfr1; obtain ⟨A4, c4, rfl, _⟩ := ownK_form hown1; have HO1 := hide hown1; have HB1 := hide (Below.grown (Below.trans HB.out (Below.mono (by repeat (first | exact Below.refl _ _ | with_reducible refine bl_plus ?_ | with_reducible refine bl_alloc ?_ _ | with_reducible refine bl_drew ?_ | with_reducible refine bl_drewN ?_ _)) HB.out.size)) hgr1 (by have := HB.out.size; simp only [World.size_alloc, plus_size, World.drew]; omega) (fun k hk => (HO.out.lt k hk).1)); clear hown1 hgr1 hfr1)))
      have HO2 := HO1.out
      rw [← HNX.out] at HO2
      go_roundw
      case rel => exact ⟨q + 1, A4, c4, hlt, by go_num, by go_num, hide HO2, HB1⟩
      case measure => simp [intOf]; omega
    · obtain rfl : q = l.length := by omega
      have ho := HO.out
      rw [List.take_of_length_le (Nat.le_refl _)] at ho
      have HO3 := hide ho
      clear ho HO
      go_wp2_with (go_at_call 54; with_reducible refine (HJ.out A2 c2 _ wr HO3.out _ ?hb).mono ?_; (case hb => exact (by repeat (first | exact Below.refl _ _ | with_reducible refine bl_plus ?_ | with_reducible refine bl_alloc ?_ _ | with_reducible refine bl_drew ?_ | with_reducible refine bl_drewN ?_ _))); rintro e w' ⟨rfl, hbl⟩; have HBL := hide hbl; clear hbl)
      go_ret
      exact ⟨rfl, HB.out.trans (Below.mono (Below.trans (by repeat (first | exact Below.refl _ _ | with_reducible refine bl_plus ?_ | with_reducible refine bl_alloc ?_ _ | with_reducible refine bl_drew ?_ | with_reducible refine bl_drewN ?_ _)) HBL.out) HB.out.size)⟩

end Go.Proofs.YtjaoiehjhnmahaaGreatDoor
/-
  WALK: a list as text: valueString.
-/
namespace Go.Proofs.YtjaoiehjhnmahaaGreatDoor
open Go.RowKit Go.Lib Cal

set_option maxHeartbeats 3200000 in
set_option maxRecDepth 100000 in
theorem valueString_list (i t : Int) (s : ByteArray) (l : List V) (A : Option Addr) (c : Nat) (w : World) (hp : PowTab w) (hL : LAt w A l) (hl : l.length ≤ 20) (hok : ∀ x ∈ l, x.selfErr = 0 ∧ x.k ≠ 7) :
    Calls Tryz.prog 22 #[(V.mk 7 i t s l).arg A c] w fun e w' => e = .returned (.string (((⟨#[91]⟩ : ByteArray) ++ joinB (l.map V.txt1) ⟨#[44, 32]⟩) ++ (⟨#[93]⟩ : ByteArray))) ∧ Below w.heap.size w w' := by
  have HPW := hide (fun W (hb : Below w.heap.size w W) => powTab_below hp hb)
  have HL := hide hL
  have HOK := hide hok
  obtain ⟨i0, ii, iz0, iz1, iz2⟩ := info_parts info_strR
  have HI := hide (And.intro ii (And.intro iz0 (And.intro iz1 iz2)))
  have hjs : (joinB (l.map V.txt1) ⟨#[44, 32]⟩).size ≤ 20 * 5002 := by
    have h1 := joinB_le (ss := l.map V.txt1) (sep := ⟨#[44, 32]⟩) (M := 5000) (fun x hx => by
      obtain ⟨y, hy, rfl⟩ := List.mem_map.1 hx
      exact V.txt1_le (hok y hy).1 (hok y hy).2)
    rw [List.length_map, show (⟨#[44, 32]⟩ : ByteArray).size = 2 from rfl] at h1
    exact Nat.le_trans h1 (Nat.mul_le_mul_right _ hl)
  have HJ := hide (fun (A2 : Option Addr) (c2 m : Nat) (W : World) (h : OwnK 1 9 W w.heap.size (.slice A2 m c2) l.length ((l.map V.txt1).map Value.string)) (W2 : World) (hb : Below W.heap.size W W2) => joinOwn_any (ss := l.map V.txt1) ⟨#[44, 32]⟩ h (by rw [List.length_map]; omega) (by omega) W2 hb)
  clear hp hL hok ii iz0 iz1 iz2
  generalize joinB (l.map V.txt1) ⟨#[44, 32]⟩ = J at *
  have hjs' : (J.size : Int) ≤ 100040 := by omega
  have hl' : (l.length : Int) ≤ 20 := by omega
  simp only [V.arg, V.k, V.i, V.t, V.s, V.l]
  go_enter Tryz.func22, Tryz.ntmps22
  go_wp2_with fail
  go_loopw [3, 55] (fun v iv wr => ∃ (q : Nat) (A2 : Option Addr) (c2 : Nat), q ≤ l.length ∧ iv = .int .i64 q ∧ v = .slice A2 q c2 ∧ Hid (OwnK 1 9 wr w.heap.size (.slice A2 q c2) q (((l.take q).map V.txt1).map Value.string)) ∧ Hid (Below w.heap.size w wr)) (fun _ iv _ => l.length - (intOf iv).toNat)
  case atStart => exact ⟨0, none, 0, Nat.zero_le _, rfl, rfl, hide OwnK.empty, hide (by repeat (first | exact Below.refl _ _ | with_reducible refine bl_plus ?_ | with_reducible refine bl_alloc ?_ _ | with_reducible refine bl_drew ?_ | with_reducible refine bl_drewN ?_ _))⟩
  case round =>
    obtain ⟨q, A2, c2, hq, rfl, rfl, HO, HB⟩ := hrel
    by_cases hlt : q < l.length
    · have hLw := HL.out.below HB.out
      obtain ⟨b, o, rfl, hb, hv⟩ := hLw.2 (by omega)
      obtain ⟨d0, d1, d2, d3, A3, e3, d4, hL2⟩ := VAt_iff.1 (hv q hlt)
      have HOKQ := hide (HOK.out l[q] (List.getElem_mem hlt))
      have HNX := hide (show ((l.take (q + 1)).map V.txt1).map Value.string = ((l.take q).map V.txt1).map Value.string ++ [.string l[q].txt1] from by rw [List.take_add_one, List.getElem?_eq_getElem hlt, List.map_append, List.map_append]; rfl)
      have HS := hide (fun W (hb : Below w.heap.size w W) => valueString_leaf l[q] A3 e3 W (HPW.out W hb) HOKQ.out.1 HOKQ.out.2)
      clear hv hL2 hLw
      generalize l[q].txt1 = T at *
      generalize l[q] = x at *
      obtain ⟨xk, xi, xt, xs, xl⟩ := x
      simp only [V.arg, V.k, V.i, V.t, V.s, V.l] at *
      go_wp2_with (first | (go_at_call 22; with_reducible refine (HS.out _ ?hb).mono ?_; (case hb => exact Below.trans HB.out (Below.mono (by repeat (first | exact Below.refl _ _ | with_reducible refine bl_plus ?_ | with_reducible refine bl_alloc ?_ _ | with_reducible refine bl_drew ?_ | with_reducible refine bl_drewN ?_ _)) HB.out.size)); rintro e w' ⟨rfl, hbl⟩; obtain ⟨os1, n1, rfl⟩ := below_plus hbl; clear hbl) | (at_builtin; go_loud (refine wpList_append_k rfl (.tmp 59) (.tmp 62) rfl rfl Tryz.underlying61 HI.out.1 HI.out.2.1 HI.out.2.2.1 (by decide) rfl (by have := HI.out.2.2.2; omega) w.heap.size q (.slice A2 q c2) (((l.take q).map V.txt1).map Value.string) [.string T] _ rfl (by repeat (first | with_reducible exact HO.out | with_reducible refine ownK_alloc ?_ _ | with_reducible refine ownK_plus ?_ _ _ | with_reducible refine ownK_drew ?_ | with_reducible refine ownK_drewN ?_ _)) rfl (by intro u hu; simp only [List.mem_cons, List.not_mem_nil, or_false] at hu; subst hu; rfl) rfl (newN_cells (cs := [.string T]) (by simp only [World.size_alloc, plus_size, World.drew])) (by omega) (by have := HB.out.size; simp only [World.size_alloc, plus_size, World.drew]; omega) ?_; intro v' w1 hown1 hgr1 hfr1; obtain ⟨A4, c4, rfl, _⟩ := ownK_form hown1; have HO1 := hide hown1; have HB1 := hide (Below.grown (Below.trans HB.out (Below.mono (by repeat (first | exact Below.refl _ _ | with_reducible refine bl_plus ?_ | with_reducible refine bl_alloc ?_ _ | with_reducible refine bl_drew ?_ | with_reducible refine bl_drewN ?_ _)) HB.out.size)) hgr1 (by have := HB.out.size; simp only [World.size_alloc, plus_size, World.drew]; omega) (fun k hk => (HO.out.lt k hk).1)); clear hown1 hgr1 hfr1)))
      have HO2 := HO1.out
      rw [← HNX.out] at HO2
      go_roundw
      case rel => exact ⟨q + 1, A4, c4, hlt, by go_num, by go_num, hide HO2, HB1⟩
      case measure => simp [intOf]; omega
    · obtain rfl : q = l.length := by omega
      have ho := HO.out
      rw [List.take_of_length_le (Nat.le_refl _)] at ho
      have HO3 := hide ho
      clear ho HO
      go_wp2_with (go_at_call 54; with_reducible refine (HJ.out A2 c2 _ wr HO3.out _ ?hb).mono ?_; (case hb => exact (by repeat (first | exact Below.refl _ _ | with_reducible refine bl_plus ?_ | with_reducible refine bl_alloc ?_ _ | with_reducible refine bl_drew ?_ | with_reducible refine bl_drewN ?_ _))); rintro e w' ⟨rfl, hbl⟩; have HBL := hide hbl; clear hbl)
      go_ret
      exact ⟨rfl, HB.out.trans (Below.mono (Below.trans (by repeat (first | exact Below.refl _ _ | with_reducible refine bl_plus ?_ | with_reducible refine bl_alloc ?_ _ | with_reducible refine bl_drew ?_ | with_reducible refine bl_drewN ?_ _)) HBL.out) HB.out.size)⟩

end Go.Proofs.YtjaoiehjhnmahaaGreatDoor
