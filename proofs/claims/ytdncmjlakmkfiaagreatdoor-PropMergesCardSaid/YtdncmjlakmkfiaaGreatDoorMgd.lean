/-
  MEMORY AND WALK: a row of values that a closure adds to; the program's way to put a value.
-/
import Derived.Test.YtdncmjlakmkfiaaGreatDoorMgc
import Derived.Test.YtdncmjlakmkfiaaGreatDoorOwnB
import Derived.Test.YtdncmjlakmkfiaaGreatDoorOwnG
import Derived.Test.YtdncmjlakmkfiaaGreatDoorPzd
import Derived.Deep.RegionLaw
set_option linter.all false
namespace Go.Proofs.YtdncmjlakmkfiaaGreatDoor
open Go.RowKit

/-- A block of one kind with a slice at a place of it, and the row of values that the slice shows; their items lie in elder blocks. -/
structure MB (B : Nat) (T : TypeId) (pre : Array Value) (w : World) (g : Nat) (A : Option Addr) (c : Nat) (qs : List CVal) : Prop where
  box : Blk w g T (pre.push (.slice A qs.length c))
  own : OwnK 5 24 w (g + 1) (.slice A qs.length c) qs.length (flatCV qs)
  ins : ∀ q ∈ qs, LIn w (fun b => b < B) q.A q.x.l
  lo : B ≤ g
section
variable {B : Nat} {T : TypeId} {pre : Array Value} {w w' : World} {g : Nat} {A : Option Addr} {c : Nat} {qs : List CVal}

theorem MB.below (h : MB B T pre w g A c qs) (hb : Below w.heap.size w w') : MB B T pre w' g A c qs :=
  ⟨h.box.below hb h.box.lt, ownK_below h.own hb, fun q hq => (h.ins q hq).frame fun b hb2 => hb.block b (by have := h.lo; have := h.box.lt; omega), h.lo⟩

theorem MB.lat (h : MB B T pre w g A c qs) : LAt w A (qs.map (·.x)) := by
  obtain ⟨-, -, -, -, -, -, hl⟩ := h.own.lin (P := fun b => b < w.heap.size) (fun b _ h2 => h2) (fun q hq => (h.ins q hq).mono fun b hb => by have := h.lo; have := h.box.lt; omega)
  exact hl.at_ fun _ h => h

theorem MB.len (h : MB B T pre w g A c qs) : qs.length ≤ c ∧ c ≤ maxLen := by
  obtain ⟨-, -, h1, h2, -⟩ := h.own.lin (P := fun b => b < w.heap.size) (fun b _ h2 => h2) (fun q hq => (h.ins q hq).mono fun b hb => by have := h.lo; have := h.box.lt; omega)
  exact ⟨h1, h2⟩
end

theorem frozen_whole (w : World) (g : Nat) (cs : Array Value) (t : TypeId) (hb : w.heap[g]? = some (.cells cs t (0, 0))) (j : Nat) : w.frozen? ⟨g, j, none⟩ = false := by simp [World.frozen?, hb]

theorem setCells_below (g3 : Nat) : ∀ (vs : List Value) (o : Nat) (w : World) (b : Nat), b ≤ g3 → Below b w (w.setCells g3 o vs)
  | [], _, w, b, _ => Below.refl b w
  | v :: vs, o, w, b, h => ((Below.refl b w).setCell (p := ⟨g3, o, none⟩) h v).trans (setCells_below g3 vs (o + 1) (w.setCell ⟨g3, o, none⟩ v) b h)

/-- The cells of a row that the call owns. -/
theorem ownK_at {K : Nat} {e : TypeId} {w : World} {base n c g : Nat} {xs : List Value} (h : OwnK K e w base (.slice (some ⟨g, 0, none⟩) n c) n xs) : g < w.heap.size ∧ base ≤ g ∧ ∀ j, j < n * K → w.cell? ⟨g, j, none⟩ = xs[j]? ∧ w.frozen? ⟨g, j, none⟩ = false := by
  obtain ⟨hl, A', c', hv, h1, h2, h3⟩ := h
  injection hv with e1 e2 e3
  subst e1 e3
  rcases h3 with ⟨h, _⟩ | ⟨g', cur, hA, hg, hb, h4, h5⟩
  · cases h
  · injection hA with hA
    injection hA with hA
    subst hA
    have hcn : n * K ≤ c * K := Nat.mul_le_mul_right _ h1
    refine ⟨(Array.getElem?_eq_some_iff.1 hb).1, hg, fun j hj => ⟨?_, frozen_whole w g cur e hb j⟩⟩
    rw [cell_of_row w g j cur _ (0, 0) hb, ← h5, List.getElem?_take_of_lt hj]
    simp

theorem ownK_some {K : Nat} {e : TypeId} {w : World} {base n c : Nat} {A : Option Addr} {xs : List Value} (h : OwnK K e w base (.slice A (n + 1) c) (n + 1) xs) : ∃ g, A = some ⟨g, 0, none⟩ := by
  obtain ⟨hl, A', c', hv, h1, h2, h3⟩ := h
  injection hv with e1 e2 e3
  subst e1 e3
  rcases h3 with ⟨_, h, _⟩ | ⟨g', cur, hA, _⟩
  · omega
  · exact ⟨g', hA⟩

theorem take_five (l m v : List Value) (h5 : m.length = 5) (hv : v.length = 5) : (l ++ m).take l.length ++ (v ++ (l ++ m).drop (l.length + v.length)) = l ++ v := by
  rw [List.take_left, hv, ← h5, List.drop_append, List.drop_of_length_le (by omega)]
  simp

theorem row_tail0 (qs : List CVal) (a b c d e : Value) : (flatCV qs ++ [a, b, c, d, e])[qs.length * 5]? = some a := by rw [List.getElem?_append_right (by rw [flatCV_len]; omega), flatCV_len]; simp

theorem row_tail1 (qs : List CVal) (a b c d e : Value) : (flatCV qs ++ [a, b, c, d, e])[qs.length * 5 + 1]? = some b := by rw [List.getElem?_append_right (by rw [flatCV_len]; omega), flatCV_len]; simp

theorem row_tail2 (qs : List CVal) (a b c d e : Value) : (flatCV qs ++ [a, b, c, d, e])[qs.length * 5 + 2]? = some c := by rw [List.getElem?_append_right (by rw [flatCV_len]; omega), flatCV_len]; simp

theorem row_tail3 (qs : List CVal) (a b c d e : Value) : (flatCV qs ++ [a, b, c, d, e])[qs.length * 5 + 3]? = some d := by rw [List.getElem?_append_right (by rw [flatCV_len]; omega), flatCV_len]; simp

theorem row_tail4 (qs : List CVal) (a b c d e : Value) : (flatCV qs ++ [a, b, c, d, e])[qs.length * 5 + 4]? = some e := by rw [List.getElem?_append_right (by rw [flatCV_len]; omega), flatCV_len]; simp

theorem push_set (pre : Array Value) (a b : Value) : (pre.push a).setIfInBounds pre.size b = pre.push b := by
  apply Array.ext'
  simp

theorem flatCV_snoc (qs : List CVal) (q : CVal) : flatCV (qs ++ [q]) = flatCV qs ++ q.cells := by
  rw [flatCV_append]
  show flatCV qs ++ (q.cells ++ []) = _
  rw [List.append_nil]
section
variable {B : Nat} {T : TypeId} {pre : Array Value} {V w1 : World} {g g3 c' : Nat} {A : Option Addr} {c : Nat} {qs : List CVal} {q : CVal}

/-- A value is put behind the row: the element first, or the slice first. -/
theorem MB.push_a (h : MB B T pre V g A c qs) (hb : Below (g + 1) V w1) (ho : OwnK 5 24 w1 (g + 1) (.slice (some ⟨g3, 0, none⟩) (qs.length + 1) c') (qs.length + 1) (flatCV qs ++ [.int .i64 0, .int .i64 0, .int .i64 0, .string ⟨#[]⟩, .slice none 0 0])) (hq : LIn V (fun b => b < B) q.A q.x.l) :
    MB B T pre ((w1.setCells g3 (qs.length * 5) q.cells).setCell ⟨g, pre.size, none⟩ (.slice (some ⟨g3, 0, none⟩) (qs.length + 1) c')) g (some ⟨g3, 0, none⟩) c' (qs ++ [q]) ∧ Below g V ((w1.setCells g3 (qs.length * 5) q.cells).setCell ⟨g, pre.size, none⟩ (.slice (some ⟨g3, 0, none⟩) (qs.length + 1) c')) := by
  obtain ⟨h1, h2, h3⟩ := ownK_at ho
  have hl : (qs ++ [q]).length = qs.length + 1 := by simp
  have hov := ho.over (qs.length * 5) q.cells (by simp only [CVal.cells, List.length_cons, List.length_nil]; omega)
  have hb1 : Below (g + 1) V (w1.setCells g3 (qs.length * 5) q.cells) := hb.trans (setCells_below g3 _ _ _ _ h2)
  have hb2 : Below g V ((w1.setCells g3 (qs.length * 5) q.cells).setCell ⟨g, pre.size, none⟩ (.slice (some ⟨g3, 0, none⟩) (qs.length + 1) c')) := (hb1.mono (Nat.le_succ g)).setCell (p := ⟨g, pre.size, none⟩) (Nat.le_refl g) _
  refine ⟨⟨?_, ?_, fun x hx => ?_, h.lo⟩, hb2⟩
  · rw [hl]
    have h5 := (h.box.below hb1 (Nat.lt_succ_self g)).set_ pre.size (.slice (some ⟨g3, 0, none⟩) (qs.length + 1) c')
    rwa [push_set] at h5
  · rw [hl, flatCV_snoc]
    have h6 : (flatCV qs ++ ([.int .i64 0, .int .i64 0, .int .i64 0, .string ⟨#[]⟩, .slice none 0 0] : List Value)).take (qs.length * 5) ++ (q.cells ++ (flatCV qs ++ ([.int .i64 0, .int .i64 0, .int .i64 0, .string ⟨#[]⟩, .slice none 0 0] : List Value)).drop (qs.length * 5 + q.cells.length)) = flatCV qs ++ q.cells := by
      have := take_five (flatCV qs) ([.int .i64 0, .int .i64 0, .int .i64 0, .string ⟨#[]⟩, .slice none 0 0] : List Value) q.cells rfl rfl
      rwa [flatCV_len] at this
    rw [h6] at hov
    exact ownK_set hov (by simp only; omega) _
  · have hx2 : LIn V (fun b => b < B) x.A x.x.l := by
      rcases List.mem_append.1 hx with hx | hx
      · exact h.ins x hx
      · rw [List.mem_singleton.1 hx]; exact hq
    exact hx2.frame fun b hb => hb2.block b (by have := h.lo; omega)

theorem MB.push_b (h : MB B T pre V g A c qs) (hb : Below (g + 1) V w1) (ho : OwnK 5 24 w1 (g + 1) (.slice (some ⟨g3, 0, none⟩) (qs.length + 1) c') (qs.length + 1) (flatCV qs ++ [.int .i64 0, .int .i64 0, .int .i64 0, .string ⟨#[]⟩, .slice none 0 0])) (hq : LIn V (fun b => b < B) q.A q.x.l) :
    MB B T pre ((w1.setCell ⟨g, pre.size, none⟩ (.slice (some ⟨g3, 0, none⟩) (qs.length + 1) c')).setCells g3 (qs.length * 5) q.cells) g (some ⟨g3, 0, none⟩) c' (qs ++ [q]) ∧ Below g V ((w1.setCell ⟨g, pre.size, none⟩ (.slice (some ⟨g3, 0, none⟩) (qs.length + 1) c')).setCells g3 (qs.length * 5) q.cells) := by
  obtain ⟨h1, h2, h3⟩ := ownK_at ho
  have hl : (qs ++ [q]).length = qs.length + 1 := by simp
  have ho2 := ownK_set ho (p := ⟨g, pre.size, none⟩) (by simp only; omega) (.slice (some ⟨g3, 0, none⟩) (qs.length + 1) c')
  have hov := ho2.over (qs.length * 5) q.cells (by simp only [CVal.cells, List.length_cons, List.length_nil]; omega)
  have hb0 : Below g V (w1.setCell ⟨g, pre.size, none⟩ (.slice (some ⟨g3, 0, none⟩) (qs.length + 1) c')) := (hb.mono (Nat.le_succ g)).setCell (p := ⟨g, pre.size, none⟩) (Nat.le_refl g) _
  have hb2 := hb0.trans (setCells_below g3 q.cells (qs.length * 5) (w1.setCell ⟨g, pre.size, none⟩ (.slice (some ⟨g3, 0, none⟩) (qs.length + 1) c')) g (by omega))
  refine ⟨⟨?_, ?_, fun x hx => ?_, h.lo⟩, hb2⟩
  · rw [hl]
    have h5 := (h.box.below hb (Nat.lt_succ_self g)).set_ pre.size (.slice (some ⟨g3, 0, none⟩) (qs.length + 1) c')
    rw [push_set] at h5
    exact h5.below (setCells_below g3 q.cells (qs.length * 5) _ (g + 1) h2) (Nat.lt_succ_self g)
  · rw [hl, flatCV_snoc]
    have h6 : (flatCV qs ++ ([.int .i64 0, .int .i64 0, .int .i64 0, .string ⟨#[]⟩, .slice none 0 0] : List Value)).take (qs.length * 5) ++ (q.cells ++ (flatCV qs ++ ([.int .i64 0, .int .i64 0, .int .i64 0, .string ⟨#[]⟩, .slice none 0 0] : List Value)).drop (qs.length * 5 + q.cells.length)) = flatCV qs ++ q.cells := by
      have := take_five (flatCV qs) ([.int .i64 0, .int .i64 0, .int .i64 0, .string ⟨#[]⟩, .slice none 0 0] : List Value) q.cells rfl rfl
      rwa [flatCV_len] at this
    rw [h6] at hov
    exact hov
  · have hx2 : LIn V (fun b => b < B) x.A x.x.l := by
      rcases List.mem_append.1 hx with hx | hx
      · exact h.ins x hx
      · rw [List.mem_singleton.1 hx]; exact hq
    exact hx2.frame fun b hb => hb2.block b (by have := h.lo; omega)
end

theorem setCells_five (w : World) (g o : Nat) (a b c d e : Value) : w.setCells g o [a, b, c, d, e] = ((((w.setCell ⟨g, o, none⟩ a).setCell ⟨g, o + 1, none⟩ b).setCell ⟨g, o + 2, none⟩ c).setCell ⟨g, o + 3, none⟩ d).setCell ⟨g, o + 4, none⟩ e := rfl

theorem put_fin {B : Nat} {T : TypeId} {pre : Array Value} {w WV W' : World} {g c' : Nat} {A' : Option Addr} {qs : List CVal} {q : CVal} {R : List V} (h : MB B T pre W' g A' c' (qs ++ [q]) ∧ Below g WV W') (hb : Below w.heap.size w WV) (hg : g < w.heap.size) (hr : qs.map (·.x) ++ [q.x] = R) :
    ∃ A' c' qs', MB B T pre W' g A' c' qs' ∧ qs'.map (·.x) = R ∧ qs'.length ≤ qs.length + 1 ∧ Below g w W' :=
  ⟨A', c', qs ++ [q], h.1, by rw [List.map_append]; exact hr, by simp, (hb.mono (Nat.le_of_lt hg)).trans h.2⟩
section
variable {B : Nat} {T : TypeId} {pre : Array Value} {w WV w1 : World} {g g3 c' OFF : Nat} {A : Option Addr} {c : Nat} {qs : List CVal} {xk xi xt : Int} {xs : ByteArray} {xl : List V} {A2 : Option Addr} {c2 : Nat} {R : List V}

theorem put_a (h : MB B T pre WV g A c qs) (hb : Below (g + 1) WV w1) (ho : OwnK 5 24 w1 (g + 1) (.slice (some ⟨g3, 0, none⟩) (qs.length + 1) c') (qs.length + 1) (flatCV qs ++ [.int .i64 0, .int .i64 0, .int .i64 0, .string ⟨#[]⟩, .slice none 0 0])) (hq : LIn WV (fun b => b < B) A2 xl) (hO : pre.size = OFF)
    (hb2 : Below w.heap.size w WV) (hg : g < w.heap.size) (hr : qs.map (·.x) ++ [.mk xk xi xt xs xl] = R) :
    ∃ A9 c9 qs9, MB B T pre ((((((w1.setCell ⟨g3, qs.length * 5, none⟩ (.int .i64 xk)).setCell ⟨g3, qs.length * 5 + 1, none⟩ (.int .i64 xi)).setCell ⟨g3, qs.length * 5 + 2, none⟩ (.int .i64 xt)).setCell ⟨g3, qs.length * 5 + 3, none⟩ (.string xs)).setCell ⟨g3, qs.length * 5 + 4, none⟩ (.slice A2 xl.length c2)).setCell ⟨g, OFF, none⟩ (.slice (some ⟨g3, 0, none⟩) (qs.length + 1) c')) g A9 c9 qs9 ∧ qs9.map (·.x) = R ∧ qs9.length ≤ qs.length + 1 ∧ Below g w ((((((w1.setCell ⟨g3, qs.length * 5, none⟩ (.int .i64 xk)).setCell ⟨g3, qs.length * 5 + 1, none⟩ (.int .i64 xi)).setCell ⟨g3, qs.length * 5 + 2, none⟩ (.int .i64 xt)).setCell ⟨g3, qs.length * 5 + 3, none⟩ (.string xs)).setCell ⟨g3, qs.length * 5 + 4, none⟩ (.slice A2 xl.length c2)).setCell ⟨g, OFF, none⟩ (.slice (some ⟨g3, 0, none⟩) (qs.length + 1) c')) := by
  subst hO
  have h9 := MB.push_a (q := ⟨.mk xk xi xt xs xl, A2, c2⟩) h hb ho hq
  rw [show CVal.cells ⟨.mk xk xi xt xs xl, A2, c2⟩ = [.int .i64 xk, .int .i64 xi, .int .i64 xt, .string xs, .slice A2 xl.length c2] from rfl, setCells_five] at h9
  exact put_fin h9 hb2 hg hr

theorem put_b (h : MB B T pre WV g A c qs) (hb : Below (g + 1) WV w1) (ho : OwnK 5 24 w1 (g + 1) (.slice (some ⟨g3, 0, none⟩) (qs.length + 1) c') (qs.length + 1) (flatCV qs ++ [.int .i64 0, .int .i64 0, .int .i64 0, .string ⟨#[]⟩, .slice none 0 0])) (hq : LIn WV (fun b => b < B) A2 xl) (hO : pre.size = OFF)
    (hb2 : Below w.heap.size w WV) (hg : g < w.heap.size) (hr : qs.map (·.x) ++ [.mk xk xi xt xs xl] = R) :
    ∃ A9 c9 qs9, MB B T pre ((((((w1.setCell ⟨g, OFF, none⟩ (.slice (some ⟨g3, 0, none⟩) (qs.length + 1) c')).setCell ⟨g3, qs.length * 5, none⟩ (.int .i64 xk)).setCell ⟨g3, qs.length * 5 + 1, none⟩ (.int .i64 xi)).setCell ⟨g3, qs.length * 5 + 2, none⟩ (.int .i64 xt)).setCell ⟨g3, qs.length * 5 + 3, none⟩ (.string xs)).setCell ⟨g3, qs.length * 5 + 4, none⟩ (.slice A2 xl.length c2)) g A9 c9 qs9 ∧ qs9.map (·.x) = R ∧ qs9.length ≤ qs.length + 1 ∧ Below g w ((((((w1.setCell ⟨g, OFF, none⟩ (.slice (some ⟨g3, 0, none⟩) (qs.length + 1) c')).setCell ⟨g3, qs.length * 5, none⟩ (.int .i64 xk)).setCell ⟨g3, qs.length * 5 + 1, none⟩ (.int .i64 xi)).setCell ⟨g3, qs.length * 5 + 2, none⟩ (.int .i64 xt)).setCell ⟨g3, qs.length * 5 + 3, none⟩ (.string xs)).setCell ⟨g3, qs.length * 5 + 4, none⟩ (.slice A2 xl.length c2)) := by
  subst hO
  have h9 := MB.push_b (q := ⟨.mk xk xi xt xs xl, A2, c2⟩) h hb ho hq
  rw [show CVal.cells ⟨.mk xk xi xt xs xl, A2, c2⟩ = [.int .i64 xk, .int .i64 xi, .int .i64 xt, .string xs, .slice A2 xl.length c2] from rfl, setCells_five] at h9
  exact put_fin h9 hb2 hg hr
end

theorem below_chain {w W W2 : World} (h : Below w.heap.size w W) (h2 : Below W.heap.size W W2) : Below w.heap.size w W2 := h.trans (h2.mono h.size)

set_option maxHeartbeats 3200000 in
set_option maxRecDepth 100000 in
theorem put_any (B g : Nat) (A : Option Addr) (c : Nat) (qs : List CVal) (x : V) (A2 : Option Addr) (c2 : Nat) (w : World) (hM : MB B 22 #[] w g A c qs) (hx : LIn w (fun b => b < B) A2 x.l) (hlen : qs.length ≤ 200000) :
    Calls Tryz.prog 127 #[x.arg A2 c2, .pointer (some ⟨g, 0, none⟩)] w fun e w' => e = .returned (.tuple #[]) ∧ ∃ A' c' qs', MB B 22 #[] w' g A' c' qs' ∧ qs'.map (·.x) = putV (qs.map (·.x)) x ∧ qs'.length ≤ qs.length + 1 ∧ Below g w w' := by
  obtain ⟨iP, hiP, hzP0, hzP1, hzP2⟩ := info_parts info_valM
  have HIP := hide (And.intro hiP (And.intro hzP0 (And.intro hzP1 hzP2)))
  clear hiP hzP0 hzP1 hzP2
  have HM := hide hM
  have hlx : LAt w A2 x.l := (hx.mono fun b hb => by have := hM.lo; have := hM.box.lt; omega).at_ fun _ h => h
  have HH := hide (fun W (hb : Below w.heap.size w W) => has_any (qs.map (·.x)) x A A2 c c2 W (hM.lat.below hb) (hlx.below hb))
  simp only [List.length_map] at HH
  have HX := hide hx
  have hgw := hM.box.lt
  have d0 : w.cell? ⟨g, 0, none⟩ = some (.slice A qs.length c) := hM.box.cell 0
  have z0 : w.frozen? ⟨g, 0, none⟩ = false := hM.box.frozen 0
  have hml := hM.len
  unfold maxLen at hml
  have HBX := hide (boxV_new w x A2 c2)
  have HPT := hide (show putV (qs.map (·.x)) x = if hasV (qs.map (·.x)) x = true then qs.map (·.x) else qs.map (·.x) ++ [x] from rfl)
  generalize putV (qs.map (·.x)) x = R at *
  clear hM hx hlx
  cases hH : hasV (qs.map (·.x)) x with
  | true =>
    rw [hH] at HH
    have HP2 := hide (show qs.map (·.x) = R by rw [HPT.out, hH]; rfl)
    clear hH HPT
    obtain ⟨xk, xi, xt, xs, xl⟩ := x
    simp only [V.arg, V.k, V.i, V.t, V.s, V.l] at *
    go_enter Tryz.func127, Tryz.ntmps127
    go_wp2_with (go_at_call 128; (refine (HH.out _ (by repeat (first | exact Below.refl _ _ | with_reducible refine bl_plus ?_ | with_reducible refine bl_alloc ?_ _ | with_reducible refine bl_drew ?_ | with_reducible refine bl_drewN ?_ _))).mono ?_); rintro e w' ⟨rfl, hbl⟩; have HM1 := hide (HM.out.below (below_chain (by repeat (first | exact Below.refl _ _ | with_reducible refine bl_plus ?_ | with_reducible refine bl_alloc ?_ _ | with_reducible refine bl_drew ?_ | with_reducible refine bl_drewN ?_ _)) hbl)); have HBX1 := hide (HBX.out.below hbl); have HB1 := hide (below_chain (w := w) (by repeat (first | exact Below.refl _ _ | with_reducible refine bl_plus ?_ | with_reducible refine bl_alloc ?_ _ | with_reducible refine bl_drew ?_ | with_reducible refine bl_drewN ?_ _)) hbl); clear hbl)
    go_end0
    exact ⟨rfl, A, c, qs, HM1.out, HP2.out, Nat.le_succ _, HB1.out.mono (Nat.le_of_lt hgw)⟩
  | false =>
    rw [hH] at HH
    have HP2 := hide (show qs.map (·.x) ++ [x] = R by rw [HPT.out, hH]; rfl)
    clear hH HPT
    obtain ⟨xk, xi, xt, xs, xl⟩ := x
    simp only [V.arg, V.k, V.i, V.t, V.s, V.l] at *
    go_enter Tryz.func127, Tryz.ntmps127
    go_upto_region 2 with (go_at_call 128; (refine (HH.out _ (by repeat (first | exact Below.refl _ _ | with_reducible refine bl_plus ?_ | with_reducible refine bl_alloc ?_ _ | with_reducible refine bl_drew ?_ | with_reducible refine bl_drewN ?_ _))).mono ?_); rintro e w' ⟨rfl, hbl⟩; have HM1 := hide (HM.out.below (below_chain (by repeat (first | exact Below.refl _ _ | with_reducible refine bl_plus ?_ | with_reducible refine bl_alloc ?_ _ | with_reducible refine bl_drew ?_ | with_reducible refine bl_drewN ?_ _)) hbl)); have HBX1 := hide (HBX.out.below hbl); have HB1 := hide (below_chain (w := w) (by repeat (first | exact Below.refl _ _ | with_reducible refine bl_plus ?_ | with_reducible refine bl_alloc ?_ _ | with_reducible refine bl_drew ?_ | with_reducible refine bl_drewN ?_ _)) hbl); clear hbl)
    generalize w' = WV at *
    have HGW := hide hgw
    have HXV := hide (HX.out.frame (w' := WV) fun b hb => HB1.out.block b (by have := HM.out.lo; have := HGW.out; omega))
    have HSZ := hide (show (#[] : Array Value).size = 0 from rfl)
    have HGV := hide (show g + 1 ≤ WV.heap.size from HM1.out.box.lt)
    have d1 : WV.cell? ⟨g, 0, none⟩ = some (.slice A qs.length c) := HM1.out.box.cell 0
    obtain ⟨x0, x1, x2, x3, x4, hgx⟩ := HBX1.out
    have HBIG := hide (show (qs.length + 1) * iP.bytes ≤ 140737488355328 ∧ qs.length + 1 ≤ 140737488355328 by have h9 := HIP.out.2.2.2; rw [h9]; omega)
    have hgv : g < WV.heap.size := HM1.out.box.lt
    have hlt1 : (qs.length : Int) < (qs.length : Int) + 1 := by omega
    clear d0 z0 hgw
    (try simp only [V.k, V.i, V.t, V.s, V.l] at x0 x1 x2 x3 x4)
    go_region_law (first | ((refine step_append_b rfl (.tmp 7) (.tmp 10) rfl rfl Tryz.underlying22 HIP.out.1 HIP.out.2.1 HIP.out.2.2.1 (by decide) rfl (by have := HIP.out.2.2.2; omega) (g + 1) qs.length (.slice A qs.length c) (flatCV qs) [.int .i64 0, .int .i64 0, .int .i64 0, .string ⟨#[]⟩, .slice none 0 0] _ rfl (ownK_alloc (by repeat (first | with_reducible exact HM1.out.own | with_reducible refine ownK_drew ?_ | with_reducible refine ownK_drewN ?_ _)) _) rfl (by intro u hu; simp only [List.mem_cons, List.not_mem_nil, or_false] at hu; rcases hu with rfl | rfl | rfl | rfl | rfl <;> rfl) rfl (newN_cells (cs := [.int .i64 0, .int .i64 0, .int .i64 0, .string ⟨#[]⟩, .slice none 0 0]) (by simp only [World.size_alloc, World.drew])) HBIG.out (by have := HGV.out; simp only [World.size_alloc, World.drew]; omega) ?_); (intro v' w1 hown1 hgr1 hfr1); (obtain ⟨A3, c3, rfl, _⟩ := ownK_form hown1); (obtain ⟨g3, rfl⟩ := ownK_some hown1); (have HOW := hide hown1); (have hb1 : Below (g + 1) WV w1 := (Below.mono (by repeat (first | exact Below.refl _ _ | with_reducible refine bl_plus ?_ | with_reducible refine bl_alloc ?_ _ | with_reducible refine bl_drew ?_ | with_reducible refine bl_drewN ?_ _)) HGV.out).grown hgr1 (by have := HGV.out; simp only [World.size_alloc, World.drew]; omega) (fun k hk => (HM1.out.own.lt k hk).1)); (have HBB := hide hb1); (obtain ⟨hg3, hgg, hce⟩ := ownK_at hown1); (have e0 := hce (qs.length * 5) (by omega)); (have e1 := hce (qs.length * 5 + 1) (by omega)); (have e2 := hce (qs.length * 5 + 2) (by omega)); (have e3 := hce (qs.length * 5 + 3) (by omega)); (have e4 := hce (qs.length * 5 + 4) (by omega)); (rw [row_tail0] at e0); (rw [row_tail1] at e1); (rw [row_tail2] at e2); (rw [row_tail3] at e3); (rw [row_tail4] at e4); (obtain ⟨p0, q0⟩ := e0); (obtain ⟨p1, q1⟩ := e1); (obtain ⟨p2, q2⟩ := e2); (obtain ⟨p3, q3⟩ := e3); (obtain ⟨p4, q4⟩ := e4); (have f0 := (hb1.cell (p := ⟨g, 0, none⟩) (Nat.lt_succ_self g)).trans d1); (have f1 := (HM1.out.box.below hb1 (Nat.lt_succ_self g)).frozen 0); (have f2 := (HM1.out.box.below hb1 (Nat.lt_succ_self g)).lt); (have n1 : ¬ g = g3 := by omega); (have n2 : ¬ g3 = g := by omega); (clear hown1 hgr1 hfr1 hb1 hce hgg)))
    all_goals
      go_wp2
      go_end0
      refine ⟨rfl, ?_⟩
      first
      | with_reducible exact put_a HM1.out HBB.out HOW.out HXV.out HSZ.out HB1.out HGW.out HP2.out
      | with_reducible exact put_b HM1.out HBB.out HOW.out HXV.out HSZ.out HB1.out HGW.out HP2.out

end Go.Proofs.YtdncmjlakmkfiaaGreatDoor
