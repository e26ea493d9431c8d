/-
  WALK: a value that is no list as text: written.
-/
import Derived.Test.YtjaoiehjhnmahaaGreatDoorVta
set_option linter.all false
namespace Go.Proofs.YtjaoiehjhnmahaaGreatDoor
open Go.RowKit Go.Lib Cal

set_option maxHeartbeats 3200000 in
set_option maxRecDepth 100000 in
theorem written_leaf (v : V) (A : Option Addr) (c : Nat) (w : World) (hp : PowTab w) (hs : v.selfErr = 0) (h7 : v.k ≠ 7) :
    Calls Tryz.prog 20 #[v.arg A c] w fun e w' => e = .returned (.string v.txt1) ∧ Below w.heap.size w w' := by
  have hcs := V.leaf_cases hs h7
  have HPW := hide (fun W (hb : Below w.heap.size w W) => powTab_below hp hb)
  clear hp hs h7
  obtain ⟨k, i, t, s, l⟩ := v
  simp only [V.arg, V.txt1, V.k, V.i, V.t, V.s, V.l] at *
  rcases hcs with rfl | ⟨rfl, rfl | rfl⟩ | ⟨rfl, h⟩ | ⟨rfl, h⟩ | ⟨rfl, h⟩ | ⟨rfl, h, h2⟩ | ⟨rfl, h⟩
  · show Calls _ _ _ _ fun e w' => e = .returned (.string ⟨#[45]⟩) ∧ Below w.heap.size w w'
    go_enter Tryz.func20, Tryz.ntmps20
    go_wp2
    go_ret
    exact ⟨rfl, (by repeat (first | exact Below.refl _ _ | refine bl_plus ?_ | refine bl_alloc ?_ _ | refine bl_drew ?_ | refine bl_drewN ?_ _))⟩
  · show Calls _ _ _ _ fun e w' => e = .returned (.string ⟨#[110, 111]⟩) ∧ Below w.heap.size w w'
    go_enter Tryz.func20, Tryz.ntmps20
    go_wp2
    go_ret
    exact ⟨rfl, (by repeat (first | exact Below.refl _ _ | refine bl_plus ?_ | refine bl_alloc ?_ _ | refine bl_drew ?_ | refine bl_drewN ?_ _))⟩
  · show Calls _ _ _ _ fun e w' => e = .returned (.string ⟨#[121, 101, 115]⟩) ∧ Below w.heap.size w w'
    go_enter Tryz.func20, Tryz.ntmps20
    go_wp2
    go_ret
    exact ⟨rfl, (by repeat (first | exact Below.refl _ _ | refine bl_plus ?_ | refine bl_alloc ?_ _ | refine bl_drew ?_ | refine bl_drewN ?_ _))⟩
  · show Calls _ _ _ _ fun e w' => e = .returned (.string (numB i)) ∧ Below w.heap.size w w'
    have HIT := hide (fun W (hb : Below w.heap.size w W) => Tryz.itoa_any i (by omega) (by omega) W (HPW.out W hb))
    go_enter Tryz.func20, Tryz.ntmps20
    go_wp2_with (go_at_call 68; refine (HIT.out _ (by repeat (first | exact Below.refl _ _ | refine bl_plus ?_ | refine bl_alloc ?_ _ | refine bl_drew ?_ | refine bl_drewN ?_ _))).mono ?_; rintro e w' ⟨rfl, os1, n1, rfl⟩)
    go_ret
    exact ⟨rfl, (by repeat (first | exact Below.refl _ _ | refine bl_plus ?_ | refine bl_alloc ?_ _ | refine bl_drew ?_ | refine bl_drewN ?_ _))⟩
  · show Calls _ _ _ _ fun e w' => e = .returned (.string (((⟨#[34]⟩ : ByteArray) ++ escS s) ++ (⟨#[34]⟩ : ByteArray))) ∧ Below w.heap.size w w'
    have hz : (escS s).size ≤ 4000 := escS_size h
    have hz' : ((escS s).size : Int) ≤ 4000 := by omega
    have HRP := hide (fun g A2 c2 W h1 h4 => replaceNew_any g A2 c2 W h1 h4 s (by omega))
    generalize escS s = S at *
    go_enter Tryz.func20, Tryz.ntmps20
    go_wp2_with fail
    go_region_with (first | (go_at_call 69; refine (newReplacer_any (w.heap.size + 1) _ (by first | exact four_new _ _ (by simp only [World.size_alloc]) | exact four_drew (four_new _ _ (by simp only [World.size_alloc]))) (by simp only [World.size_alloc, World.size_drew]; omega)).mono ?_; rintro e w' ⟨g, A2, c2, rfl, hbl, hge, hbk, hf4⟩; obtain ⟨os1, n1, rfl⟩ := below_plus hbl; have HBK := hide hbk; have HF4 := hide hf4; have HGE := hide hge; clear hbk hf4 hge hbl) | (go_at_call 70; refine (HRP.out g A2 c2 _ (by exact HBK.out) (by exact HF4.out)).mono ?_; rintro e w2 ⟨rfl, hgr⟩; have HGR := hide hgr; clear hgr))
    all_goals
      go_wp2
      go_ret
      exact ⟨rfl, Below.grown (by repeat (first | exact Below.refl _ _ | refine bl_plus ?_ | refine bl_alloc ?_ _ | refine bl_drew ?_ | refine bl_drewN ?_ _)) HGR.out (by simp only [plus_size, World.size_alloc]; omega) (fun k hk => by have := HGE.out; simp only [World.size_alloc, World.drew] at this; injection hk with hk; omega)⟩
  · show Calls _ _ _ _ fun e w' => e = .returned (.string (dateS (parts i))) ∧ Below w.heap.size w w'
    have HD1 := hide (fun W (hb : Below w.heap.size w W) => dateText_any i W h.1 h.2 (HPW.out W hb))
    go_enter Tryz.func20, Tryz.ntmps20
    go_wp2_with (go_at_call 71; with_reducible refine (HD1.out _ (by repeat (first | exact Below.refl _ _ | refine bl_plus ?_ | refine bl_alloc ?_ _ | refine bl_drew ?_ | refine bl_drewN ?_ _))).mono ?_; rintro e w' ⟨rfl, hbl⟩; obtain ⟨os1, n1, rfl⟩ := below_plus hbl; clear hbl)
    go_ret
    exact ⟨rfl, (by repeat (first | exact Below.refl _ _ | refine bl_plus ?_ | refine bl_alloc ?_ _ | refine bl_drew ?_ | refine bl_drewN ?_ _))⟩
  · show Calls _ _ _ _ fun e w' => e = .returned (.string ((dateS (parts i) ++ (⟨#[46, 46]⟩ : ByteArray)) ++ dateS (parts t))) ∧ Below w.heap.size w w'
    have z1 : (dateS (parts i)).size = 10 := rfl
    have z2 : (dateS (parts t)).size = 10 := rfl
    have HD1 := hide (fun W (hb : Below w.heap.size w W) => dateText_any i W h.1 h.2 (HPW.out W hb))
    have HD2 := hide (fun W (hb : Below w.heap.size w W) => dateText_any t W h2.1 h2.2 (HPW.out W hb))
    generalize dateS (parts i) = D1 at *
    generalize dateS (parts t) = D2 at *
    go_enter Tryz.func20, Tryz.ntmps20
    go_wp2_with (first | (go_at_call 71; with_reducible refine (HD1.out _ (by repeat (first | exact Below.refl _ _ | refine bl_plus ?_ | refine bl_alloc ?_ _ | refine bl_drew ?_ | refine bl_drewN ?_ _))).mono ?_; rintro e w' ⟨rfl, hbl⟩; obtain ⟨os1, n1, rfl⟩ := below_plus hbl; clear hbl) | (go_at_call 71; with_reducible refine (HD2.out _ (by repeat (first | exact Below.refl _ _ | refine bl_plus ?_ | refine bl_alloc ?_ _ | refine bl_drew ?_ | refine bl_drewN ?_ _))).mono ?_; rintro e w' ⟨rfl, hbl⟩; obtain ⟨os2, n2, rfl⟩ := below_plus hbl; clear hbl))
    go_ret
    exact ⟨rfl, (by repeat (first | exact Below.refl _ _ | refine bl_plus ?_ | refine bl_alloc ?_ _ | refine bl_drew ?_ | refine bl_drewN ?_ _))⟩
  · show Calls _ _ _ _ fun e w' => e = .returned (.string (((⟨#[91, 91]⟩ : ByteArray) ++ s) ++ (⟨#[93, 93]⟩ : ByteArray))) ∧ Below w.heap.size w w'
    have h' : (s.size : Int) ≤ 100 := by omega
    go_enter Tryz.func20, Tryz.ntmps20
    go_wp2
    go_ret
    exact ⟨rfl, (by repeat (first | exact Below.refl _ _ | refine bl_plus ?_ | refine bl_alloc ?_ _ | refine bl_drew ?_ | refine bl_drewN ?_ _))⟩

end Go.Proofs.YtjaoiehjhnmahaaGreatDoor
/-
  WALK: a value that is no list as text: valueString.
-/
namespace Go.Proofs.YtjaoiehjhnmahaaGreatDoor
open Go.RowKit Go.Lib Cal

set_option maxHeartbeats 3200000 in
set_option maxRecDepth 100000 in
theorem valueString_leaf (v : V) (A : Option Addr) (c : Nat) (w : World) (hp : PowTab w) (hs : v.selfErr = 0) (h7 : v.k ≠ 7) :
    Calls Tryz.prog 22 #[v.arg A c] w fun e w' => e = .returned (.string v.txt1) ∧ Below w.heap.size w w' := by
  have hcs := V.leaf_cases hs h7
  have HPW := hide (fun W (hb : Below w.heap.size w W) => powTab_below hp hb)
  clear hp hs h7
  obtain ⟨k, i, t, s, l⟩ := v
  simp only [V.arg, V.txt1, V.k, V.i, V.t, V.s, V.l] at *
  rcases hcs with rfl | ⟨rfl, rfl | rfl⟩ | ⟨rfl, h⟩ | ⟨rfl, h⟩ | ⟨rfl, h⟩ | ⟨rfl, h, h2⟩ | ⟨rfl, h⟩
  · show Calls _ _ _ _ fun e w' => e = .returned (.string ⟨#[45]⟩) ∧ Below w.heap.size w w'
    go_enter Tryz.func22, Tryz.ntmps22
    go_wp2
    go_ret
    exact ⟨rfl, (by repeat (first | exact Below.refl _ _ | refine bl_plus ?_ | refine bl_alloc ?_ _ | refine bl_drew ?_ | refine bl_drewN ?_ _))⟩
  · show Calls _ _ _ _ fun e w' => e = .returned (.string ⟨#[110, 111]⟩) ∧ Below w.heap.size w w'
    go_enter Tryz.func22, Tryz.ntmps22
    go_wp2
    go_ret
    exact ⟨rfl, (by repeat (first | exact Below.refl _ _ | refine bl_plus ?_ | refine bl_alloc ?_ _ | refine bl_drew ?_ | refine bl_drewN ?_ _))⟩
  · show Calls _ _ _ _ fun e w' => e = .returned (.string ⟨#[121, 101, 115]⟩) ∧ Below w.heap.size w w'
    go_enter Tryz.func22, Tryz.ntmps22
    go_wp2
    go_ret
    exact ⟨rfl, (by repeat (first | exact Below.refl _ _ | refine bl_plus ?_ | refine bl_alloc ?_ _ | refine bl_drew ?_ | refine bl_drewN ?_ _))⟩
  · show Calls _ _ _ _ fun e w' => e = .returned (.string (numB i)) ∧ Below w.heap.size w w'
    have HIT := hide (fun W (hb : Below w.heap.size w W) => Tryz.itoa_any i (by omega) (by omega) W (HPW.out W hb))
    go_enter Tryz.func22, Tryz.ntmps22
    go_wp2_with (go_at_call 68; refine (HIT.out _ (by repeat (first | exact Below.refl _ _ | refine bl_plus ?_ | refine bl_alloc ?_ _ | refine bl_drew ?_ | refine bl_drewN ?_ _))).mono ?_; rintro e w' ⟨rfl, os1, n1, rfl⟩)
    go_ret
    exact ⟨rfl, (by repeat (first | exact Below.refl _ _ | refine bl_plus ?_ | refine bl_alloc ?_ _ | refine bl_drew ?_ | refine bl_drewN ?_ _))⟩
  · show Calls _ _ _ _ fun e w' => e = .returned (.string (((⟨#[34]⟩ : ByteArray) ++ escS s) ++ (⟨#[34]⟩ : ByteArray))) ∧ Below w.heap.size w w'
    have hz : (escS s).size ≤ 4000 := escS_size h
    have hz' : ((escS s).size : Int) ≤ 4000 := by omega
    have HRP := hide (fun g A2 c2 W h1 h4 => replaceNew_any g A2 c2 W h1 h4 s (by omega))
    generalize escS s = S at *
    go_enter Tryz.func22, Tryz.ntmps22
    go_wp2_with fail
    go_region_with (first | (go_at_call 69; refine (newReplacer_any (w.heap.size + 1) _ (by first | exact four_new _ _ (by simp only [World.size_alloc]) | exact four_drew (four_new _ _ (by simp only [World.size_alloc]))) (by simp only [World.size_alloc, World.size_drew]; omega)).mono ?_; rintro e w' ⟨g, A2, c2, rfl, hbl, hge, hbk, hf4⟩; obtain ⟨os1, n1, rfl⟩ := below_plus hbl; have HBK := hide hbk; have HF4 := hide hf4; have HGE := hide hge; clear hbk hf4 hge hbl) | (go_at_call 70; refine (HRP.out g A2 c2 _ (by exact HBK.out) (by exact HF4.out)).mono ?_; rintro e w2 ⟨rfl, hgr⟩; have HGR := hide hgr; clear hgr))
    all_goals
      go_wp2
      go_ret
      exact ⟨rfl, Below.grown (by repeat (first | exact Below.refl _ _ | refine bl_plus ?_ | refine bl_alloc ?_ _ | refine bl_drew ?_ | refine bl_drewN ?_ _)) HGR.out (by simp only [plus_size, World.size_alloc]; omega) (fun k hk => by have := HGE.out; simp only [World.size_alloc, World.drew] at this; injection hk with hk; omega)⟩
  · show Calls _ _ _ _ fun e w' => e = .returned (.string (dateS (parts i))) ∧ Below w.heap.size w w'
    have HD1 := hide (fun W (hb : Below w.heap.size w W) => dateString_any i W h.1 h.2)
    go_enter Tryz.func22, Tryz.ntmps22
    go_wp2_with (go_at_call 72; with_reducible refine (HD1.out _ (by repeat (first | exact Below.refl _ _ | refine bl_plus ?_ | refine bl_alloc ?_ _ | refine bl_drew ?_ | refine bl_drewN ?_ _))).mono ?_; rintro e w' ⟨rfl, hbl⟩; obtain ⟨os1, n1, rfl⟩ := below_plus hbl; clear hbl)
    go_ret
    exact ⟨rfl, (by repeat (first | exact Below.refl _ _ | refine bl_plus ?_ | refine bl_alloc ?_ _ | refine bl_drew ?_ | refine bl_drewN ?_ _))⟩
  · show Calls _ _ _ _ fun e w' => e = .returned (.string ((dateS (parts i) ++ (⟨#[46, 46]⟩ : ByteArray)) ++ dateS (parts t))) ∧ Below w.heap.size w w'
    have z1 : (dateS (parts i)).size = 10 := rfl
    have z2 : (dateS (parts t)).size = 10 := rfl
    have HD1 := hide (fun W (hb : Below w.heap.size w W) => dateString_any i W h.1 h.2)
    have HD2 := hide (fun W (hb : Below w.heap.size w W) => dateString_any t W h2.1 h2.2)
    generalize dateS (parts i) = D1 at *
    generalize dateS (parts t) = D2 at *
    go_enter Tryz.func22, Tryz.ntmps22
    have z1' : (D1.size : Int) = 10 := by omega
    have z2' : (D2.size : Int) = 10 := by omega
    go_wp2_with fail
    go_region_with (first | (go_at_call 72; with_reducible refine (HD1.out _ (by repeat (first | exact Below.refl _ _ | refine bl_plus ?_ | refine bl_alloc ?_ _ | refine bl_drew ?_ | refine bl_drewN ?_ _))).mono ?_; rintro e w' ⟨rfl, hbl⟩; obtain ⟨os1, n1, rfl⟩ := below_plus hbl; clear hbl) | (go_at_call 72; with_reducible refine (HD2.out _ (by repeat (first | exact Below.refl _ _ | refine bl_plus ?_ | refine bl_alloc ?_ _ | refine bl_drew ?_ | refine bl_drewN ?_ _))).mono ?_; rintro e w' ⟨rfl, hbl⟩; obtain ⟨os2, n2, rfl⟩ := below_plus hbl; clear hbl))
    all_goals
      go_wp2
      go_ret
      exact ⟨rfl, (by repeat (first | exact Below.refl _ _ | refine bl_plus ?_ | refine bl_alloc ?_ _ | refine bl_drew ?_ | refine bl_drewN ?_ _))⟩
  · show Calls _ _ _ _ fun e w' => e = .returned (.string (((⟨#[91, 91]⟩ : ByteArray) ++ s) ++ (⟨#[93, 93]⟩ : ByteArray))) ∧ Below w.heap.size w w'
    have h' : (s.size : Int) ≤ 100 := by omega
    go_enter Tryz.func22, Tryz.ntmps22
    go_wp2
    go_ret
    exact ⟨rfl, (by repeat (first | exact Below.refl _ _ | refine bl_plus ?_ | refine bl_alloc ?_ _ | refine bl_drew ?_ | refine bl_drewN ?_ _))⟩

end Go.Proofs.YtjaoiehjhnmahaaGreatDoor
