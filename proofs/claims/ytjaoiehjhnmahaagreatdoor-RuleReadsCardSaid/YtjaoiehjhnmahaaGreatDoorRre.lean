/-
  WALKS: a reader takes words as long as they can be read, in the program.
-/
import Derived.Test.YtjaoiehjhnmahaaGreatDoorRrd
import Derived.Test.YtjaoiehjhnmahaaGreatDoorOwnG
set_option linter.all false
namespace Go.Proofs.YtjaoiehjhnmahaaGreatDoor
open Go.RowKit

theorem Rd.next_if {T : TypeId} {w : World} {p B b o c : Nat} {x : ByteArray} {r : List ByteArray} {f : Bool} (h1 : Blk w p T #[.slice (some ⟨b, o, none⟩) (r.length + 1) c, .bool f]) (h2 : b ≠ p) (h3 : b < B) (h4 : r.length + 1 ≤ c) (h5 : c ≤ 4294967296)
    (h6 : ∀ k (h : k < (x :: r).length), w.cell? ⟨b, o + k, none⟩ = some (.string (x :: r)[k])) (h7 : p < B) (h8 : B ≤ w.heap.size) (h9 : ∀ y ∈ x :: r, y.size ≤ 2000) :
    Rd T (w.setCell ⟨p, 0, none⟩ (.slice (if c = 1 then some ⟨b, o, none⟩ else some ⟨b, o + 1, none⟩) r.length (c - 1))) p B r f := by
  by_cases hc : c = 1
  · rw [if_pos hc, show c - 1 = 0 by omega]
    exact Rd.next0 h1 h2 h3 (by omega) h7 h8 h9
  · rw [if_neg hc]
    exact Rd.next h1 h2 h3 h4 h5 h6 h7 h8 h9
/-- What the call owns, behind what other blocks are. -/
theorem own_keep {w w' : World} {base : Nat} {e : TypeId} {size : Nat} {v : Value} {n : Nat} {xs : List Value} (h : w.ownsRow base e size v n xs) (hb : ∀ b, base ≤ b → b < w.heap.size → w'.heap[b]? = w.heap[b]?) : w'.ownsRow base e size v n xs := by
  refine ⟨h.1, ?_⟩
  rcases h.2 with h2 | ⟨g, cap, cur, hv, hg, hh, hr⟩
  · exact .inl h2
  · refine .inr ⟨g, cap, cur, hv, hg, ?_, hr⟩
    rw [hb g hg (Blk.lt (cs := cur) hh)]
    exact hh
theorem own_len {w : World} {base : Nat} {A : Option Addr} {c : Nat} {done : List Int} {k : Int} (h : w.ownsRow base 3 1 (.slice A (done.length + 1) c) (done.length + 1) ((done ++ [k]).map (Value.int .i64))) : w.ownsRow base 3 1 (.slice A (done ++ [k]).length c) (done ++ [k]).length ((done ++ [k]).map (Value.int .i64)) := by
  rw [List.length_append]
  exact h
theorem own_setp {w : World} {base : Nat} {e : TypeId} {size : Nat} {v u : Value} {n p i : Nat} {xs : List Value} (h : w.ownsRow base e size v n xs) (hp : p < base) (_ : True) : (w.setCell ⟨p, i, none⟩ u).ownsRow base e size v n xs :=
  own_keep h fun b hb _ => Below.heap_setCell w _ _ b (by simp only; omega)

set_option maxHeartbeats 3200000 in
set_option maxRecDepth 100000 in
theorem list_any (rd : ByteArray → Option Int) (fid : FuncId) (p B : Nat) (L : List ByteArray) (f : Bool) (w : World) (h : Rd 64 w p B L f)
    (ent : ∀ args w, (callFunc fid args).run Tryz.prog w = .ok (.enter fid args) w)
    (hread : ∀ (x : ByteArray) (W : World), x.size ≤ 2000 → Trn p w W → Calls Tryz.prog fid #[.string x] W fun e w' => ∃ k, e = .returned (.tuple #[.int .i64 k, .bool (rd x).isSome]) ∧ (∀ n, rd x = some n → k = n) ∧ Below W.heap.size W w') :
    Calls Tryz.prog 96 #[.pointer (some ⟨p, 0, none⟩), .func (.func fid) #[] #[]] w fun e w' => ∃ A c, e = .returned (.slice A (spn rd L).1.length c) ∧ w'.ownsRow w.heap.size 3 1 (.slice A (spn rd L).1.length c) (spn rd L).1.length ((spn rd L).1.map (Value.int .i64)) ∧ Rd 64 w' p B (spn rd L).2 (f || decide ((spn rd L).1.length = 0)) ∧ Trn p w w' := by
  suffices hmain : ∀ PO : Ending → World → Prop, (∀ (w' : World) (done : List Int) (R : List ByteArray) (f' : Bool) (A : Option Addr) (c : Nat), (spn rd L).1 = done → (spn rd L).2 = R → w'.ownsRow w.heap.size 3 1 (.slice A done.length c) done.length (done.map (Value.int .i64)) → Rd 64 w' p B R f' → f' = (f || decide (done.length = 0)) → Trn p w w' → PO (.returned (.slice A done.length c)) w') → Calls Tryz.prog 96 #[.pointer (some ⟨p, 0, none⟩), .func (.func fid) #[] #[]] w PO from
    hmain _ (fun w' done R f' A c h1 h2 h3 h4 h5 h6 => by subst h1 h2 h5; exact ⟨A, c, rfl, h3, h4, h6⟩)
  intro PO hPO
  have HPO := hide hPO
  clear hPO
  have HF := hide hread
  have HR0 := hide h
  have HPW := hide (show p < w.heap.size from Nat.lt_of_lt_of_le h.lt h.le)
  have HBW := hide h.le
  have hlen : L.length ≤ 4294967296 := by obtain ⟨⟨_, _, q, _, _, _, k4, k5, _⟩, _, _, _⟩ := h; omega
  clear h hread
  go_enter Tryz.func96, Tryz.ntmps96
  go_wp2
  go_loopw [5] (fun v wr => ∃ (done : List Int) (R : List ByteArray) (A : Option Addr) (c : Nat), v = .slice A done.length c ∧ Hid (spn rd L = (done ++ (spn rd R).1, (spn rd R).2)) ∧ Hid (wr.ownsRow w.heap.size 3 1 (.slice A done.length c) done.length (done.map (Value.int .i64))) ∧ Hid (Rd 64 wr p B R f) ∧ Hid (Trn p w wr) ∧ done.length + R.length = L.length) (fun v _ => L.length - lenV v)
  case atStart => exact ⟨[], L, none, 0, rfl, hide (by simp), hide own_none, HR0, hide (Trn.refl _ _), by simp⟩
  case round =>
    obtain ⟨done, R, A, c', rfl, HS, HO, HR, HT, hsum⟩ := hrel
    have HSZ := hide HT.out.size
    cases R with
    | nil =>
      have HS1 := hide (show (spn rd L).1 = done by rw [HS.out]; simp [spn])
      have HS2 := hide (show (spn rd L).2 = [] by rw [HS.out]; rfl)
      obtain ⟨⟨b, o, c, k1, k2, k3, k4, k5, k6⟩, k7, k8, k9⟩ := HR.out
      have c0 : wr.cell? ⟨p, 0, none⟩ = some (.slice (some ⟨b, o, none⟩) 0 c) := k1.cell 0
      have c1 : wr.cell? ⟨p, 1, none⟩ = some (.bool f) := k1.cell 1
      have z1 := k1.frozen 1
      have hp := k1.lt
      clear k1 k2 k3 k4 k5 k6 k7 k8 k9 HS HF
      cases f <;> rcases Nat.eq_zero_or_pos done.length with hz | hz
      · obtain rfl : done = [] := List.length_eq_zero_iff.1 hz
        go_wp2
        exact HPO.out _ [] _ true A c' HS1.out HS2.out (by repeat (first | with_reducible exact HO.out | with_reducible refine own_setp ?_ HPW.out trivial | with_reducible refine own_plus ?_)) (by repeat (first | with_reducible exact HR.out | with_reducible apply Rd.flag | with_reducible refine Rd.below_ ?_ (bl_alloc (Below.refl _ _) _) | with_reducible refine Rd.below_ ?_ (bl_plus (Below.refl _ _)))) rfl (by repeat (first | with_reducible exact HT.out | with_reducible refine Trn.alloc ?_ _ | with_reducible refine Trn.plus ?_ _ _ | with_reducible refine Trn.set_ ?_ _))
      · have hz5 : ((done.length : Int) == 0) = false := beq_eq_false_iff_ne.2 (by omega)
        go_wp2
        exact HPO.out _ done _ false A c' HS1.out HS2.out (by repeat (first | with_reducible exact HO.out | with_reducible refine own_setp ?_ HPW.out trivial | with_reducible refine own_plus ?_)) (by repeat (first | with_reducible exact HR.out | with_reducible apply Rd.flag | with_reducible refine Rd.below_ ?_ (bl_alloc (Below.refl _ _) _) | with_reducible refine Rd.below_ ?_ (bl_plus (Below.refl _ _)))) (by rw [decide_eq_false (by omega)]; rfl) (by repeat (first | with_reducible exact HT.out | with_reducible refine Trn.alloc ?_ _ | with_reducible refine Trn.plus ?_ _ _ | with_reducible refine Trn.set_ ?_ _))
      · obtain rfl : done = [] := List.length_eq_zero_iff.1 hz
        go_wp2
        exact HPO.out _ [] _ true A c' HS1.out HS2.out (by repeat (first | with_reducible exact HO.out | with_reducible refine own_setp ?_ HPW.out trivial | with_reducible refine own_plus ?_)) (by repeat (first | with_reducible exact HR.out | with_reducible apply Rd.flag | with_reducible refine Rd.below_ ?_ (bl_alloc (Below.refl _ _) _) | with_reducible refine Rd.below_ ?_ (bl_plus (Below.refl _ _)))) rfl (by repeat (first | with_reducible exact HT.out | with_reducible refine Trn.alloc ?_ _ | with_reducible refine Trn.plus ?_ _ _ | with_reducible refine Trn.set_ ?_ _))
      · have hz5 : ((done.length : Int) == 0) = false := beq_eq_false_iff_ne.2 (by omega)
        go_wp2
        exact HPO.out _ done _ true A c' HS1.out HS2.out (by repeat (first | with_reducible exact HO.out | with_reducible refine own_setp ?_ HPW.out trivial | with_reducible refine own_plus ?_)) (by repeat (first | with_reducible exact HR.out | with_reducible apply Rd.flag | with_reducible refine Rd.below_ ?_ (bl_alloc (Below.refl _ _) _) | with_reducible refine Rd.below_ ?_ (bl_plus (Below.refl _ _)))) rfl (by repeat (first | with_reducible exact HT.out | with_reducible refine Trn.alloc ?_ _ | with_reducible refine Trn.plus ?_ _ _ | with_reducible refine Trn.set_ ?_ _))
    | cons x r =>
      obtain ⟨⟨b, o, c, k1, k2, k3, k4, k5, k6⟩, k7, k8, k9⟩ := HR.out
      have hx : x.size ≤ 2000 := k9 x (by simp)
      have c0 : wr.cell? ⟨p, 0, none⟩ = some (.slice (some ⟨b, o, none⟩) (r.length + 1) c) := k1.cell 0
      have c1 : wr.cell? ⟨p, 1, none⟩ = some (.bool f) := k1.cell 1
      have z1 := k1.frozen 1
      have hp := k1.lt
      have hb : b < wr.heap.size := Nat.lt_of_lt_of_le k3 k8
      have d0 : wr.cell? ⟨b, o, none⟩ = some (.string x) := k6 0 (by simp)
      have HC := hide (fun W (hb : Below wr.heap.size wr W) => HF.out x W hx (HT.out.trans (Trn.of_below hb)))
      clear k1 k2 k3 k4 k5 k6 k7 k8 k9 HF
      rcases hn : rd x with _ | v
      · rw [hn] at HC
        have HS1 := hide (show (spn rd L).1 = done by rw [HS.out]; simp [spn, hn])
        have HS2 := hide (show (spn rd L).2 = x :: r by rw [HS.out]; simp [spn, hn])
        clear hn HS
        cases f <;> rcases Nat.eq_zero_or_pos done.length with hz | hz
        · obtain rfl : done = [] := List.length_eq_zero_iff.1 hz
          go_wp2_with (go_at_fn fid; refine (HC.out _ ?hb).mono ?_; (case hb => exact (by repeat (first | exact Below.refl _ _ | with_reducible refine bl_plus ?_ | with_reducible refine bl_alloc ?_ _ | with_reducible refine bl_drew ?_ | with_reducible refine bl_drewN ?_ _))); rintro e w' ⟨k, rfl, hk, hbl⟩; obtain ⟨os1, n1, rfl⟩ := below_plus hbl; clear hbl hk)
          exact HPO.out _ [] _ true A c' HS1.out HS2.out (by repeat (first | with_reducible exact HO.out | with_reducible refine own_setp ?_ HPW.out trivial | with_reducible refine own_plus ?_)) (by repeat (first | with_reducible exact HR.out | with_reducible apply Rd.flag | with_reducible refine Rd.below_ ?_ (bl_alloc (Below.refl _ _) _) | with_reducible refine Rd.below_ ?_ (bl_plus (Below.refl _ _)))) rfl (by repeat (first | with_reducible exact HT.out | with_reducible refine Trn.alloc ?_ _ | with_reducible refine Trn.plus ?_ _ _ | with_reducible refine Trn.set_ ?_ _))
        · have hz5 : ((done.length : Int) == 0) = false := beq_eq_false_iff_ne.2 (by omega)
          go_wp2_with (go_at_fn fid; refine (HC.out _ ?hb).mono ?_; (case hb => exact (by repeat (first | exact Below.refl _ _ | with_reducible refine bl_plus ?_ | with_reducible refine bl_alloc ?_ _ | with_reducible refine bl_drew ?_ | with_reducible refine bl_drewN ?_ _))); rintro e w' ⟨k, rfl, hk, hbl⟩; obtain ⟨os1, n1, rfl⟩ := below_plus hbl; clear hbl hk)
          exact HPO.out _ done _ false A c' HS1.out HS2.out (by repeat (first | with_reducible exact HO.out | with_reducible refine own_setp ?_ HPW.out trivial | with_reducible refine own_plus ?_)) (by repeat (first | with_reducible exact HR.out | with_reducible apply Rd.flag | with_reducible refine Rd.below_ ?_ (bl_alloc (Below.refl _ _) _) | with_reducible refine Rd.below_ ?_ (bl_plus (Below.refl _ _)))) (by rw [decide_eq_false (by omega)]; rfl) (by repeat (first | with_reducible exact HT.out | with_reducible refine Trn.alloc ?_ _ | with_reducible refine Trn.plus ?_ _ _ | with_reducible refine Trn.set_ ?_ _))
        · obtain rfl : done = [] := List.length_eq_zero_iff.1 hz
          go_wp2_with (go_at_fn fid; refine (HC.out _ ?hb).mono ?_; (case hb => exact (by repeat (first | exact Below.refl _ _ | with_reducible refine bl_plus ?_ | with_reducible refine bl_alloc ?_ _ | with_reducible refine bl_drew ?_ | with_reducible refine bl_drewN ?_ _))); rintro e w' ⟨k, rfl, hk, hbl⟩; obtain ⟨os1, n1, rfl⟩ := below_plus hbl; clear hbl hk)
          exact HPO.out _ [] _ true A c' HS1.out HS2.out (by repeat (first | with_reducible exact HO.out | with_reducible refine own_setp ?_ HPW.out trivial | with_reducible refine own_plus ?_)) (by repeat (first | with_reducible exact HR.out | with_reducible apply Rd.flag | with_reducible refine Rd.below_ ?_ (bl_alloc (Below.refl _ _) _) | with_reducible refine Rd.below_ ?_ (bl_plus (Below.refl _ _)))) rfl (by repeat (first | with_reducible exact HT.out | with_reducible refine Trn.alloc ?_ _ | with_reducible refine Trn.plus ?_ _ _ | with_reducible refine Trn.set_ ?_ _))
        · have hz5 : ((done.length : Int) == 0) = false := beq_eq_false_iff_ne.2 (by omega)
          go_wp2_with (go_at_fn fid; refine (HC.out _ ?hb).mono ?_; (case hb => exact (by repeat (first | exact Below.refl _ _ | with_reducible refine bl_plus ?_ | with_reducible refine bl_alloc ?_ _ | with_reducible refine bl_drew ?_ | with_reducible refine bl_drewN ?_ _))); rintro e w' ⟨k, rfl, hk, hbl⟩; obtain ⟨os1, n1, rfl⟩ := below_plus hbl; clear hbl hk)
          exact HPO.out _ done _ true A c' HS1.out HS2.out (by repeat (first | with_reducible exact HO.out | with_reducible refine own_setp ?_ HPW.out trivial | with_reducible refine own_plus ?_)) (by repeat (first | with_reducible exact HR.out | with_reducible apply Rd.flag | with_reducible refine Rd.below_ ?_ (bl_alloc (Below.refl _ _) _) | with_reducible refine Rd.below_ ?_ (bl_plus (Below.refl _ _)))) rfl (by repeat (first | with_reducible exact HT.out | with_reducible refine Trn.alloc ?_ _ | with_reducible refine Trn.plus ?_ _ _ | with_reducible refine Trn.set_ ?_ _))
      · rw [hn] at HC
        have HS2 := hide (show spn rd L = ((done ++ [v]) ++ (spn rd r).1, (spn rd r).2) by rw [HS.out]; simp [spn, hn])
        have hlr : done.length + (r.length + 1) = L.length := hsum
        clear hn HS hsum
        go_wp2_with (first
          | (go_at_fn fid; refine (HC.out _ ?hb).mono ?_; (case hb => exact (by repeat (first | exact Below.refl _ _ | with_reducible refine bl_plus ?_ | with_reducible refine bl_alloc ?_ _ | with_reducible refine bl_drew ?_ | with_reducible refine bl_drewN ?_ _))); rintro e w' ⟨k, rfl, hk, hbl⟩; obtain rfl := hk v rfl; obtain ⟨os1, n1, rfl⟩ := below_plus hbl; clear hbl hk)
          | (at_builtin; go_loud (refine wpList_append_int rfl (.tmp 27) (.tmp 29) rfl w.heap.size done.length (.slice A done.length c') done _ _ rfl ?own rfl ?hg (by omega) ?hbs ?_; (case own => exact (by repeat (first | with_reducible exact HO.out | with_reducible refine own_setp ?_ HPW.out trivial | with_reducible refine own_plus ?_))); (case hg => simp [plus_size]); (case hbs => (simp only [plus_size]; have := HSZ.out; omega)); intro v' w1 hown1 hb1; obtain ⟨A2, c2, rfl, -⟩ := own_form hown1; have HR1 := hide (HR.out.below (((bl_plus (Below.refl _ _)).mono HR.out.le).trans (hb1.mono HBW.out))); have HT1 := hide ((HT.out.plus os1 n1).low hb1); have HO1 := hide (own_len hown1); clear hown1 hb1; obtain ⟨⟨b2, o2, q2, j1, j2, j3, j4, j5, j6⟩, j7, j8, j9⟩ := HR1.out; have d1 := j1.cell 0; simp only [List.getElem?_toArray, List.getElem?_cons_zero, List.length_cons] at d1; have z2 := j1.frozen 0; have hp2 := j1.lt; have hl2 : r.length + 1 ≤ q2 := j4; have HX := hide (Rd.next_if j1 j2 j3 j4 j5 j6 j7 j8 j9); clear j1 j2 j3 j4 j5 j6 j7 j8 j9)))
        all_goals
          go_roundw
          case rel => exact ⟨done ++ [k], r, A2, c2, by rw [List.length_append]; rfl, HS2, hide (own_setp HO1.out HPW.out trivial), HX, hide (HT1.out.set_ _), by rw [List.length_append, List.length_singleton]; omega⟩
          case measure => simp [lenV]; omega

end Go.Proofs.YtjaoiehjhnmahaaGreatDoor
