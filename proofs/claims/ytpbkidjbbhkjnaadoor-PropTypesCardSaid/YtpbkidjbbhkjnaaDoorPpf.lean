/-
  PLAIN AND WALK: a list of types is right, in the program.
-/
import Derived.Test.YtpbkidjbbhkjnaaDoorPpe
namespace Go.Proofs.YtpbkidjbbhkjnaaDoor
open Go.RowKit Go.Lib

def tyErrAt (l : List TY) (i : Nat) : Int := match l[i]? with
  | none => 0
  | some t => if nameErr t.n ≠ 0 then 3 else if hasTy (l.take i) t.n = true then 6 else t.err
def typesErr (l : List TY) : Int := if 40 < l.length then 4 else firstErr (tyErrAt l) l.length
theorem tyErr_cases {l : List TY} {i : Nat} (h : i < l.length) : (nameErr l[i].n = 3 ∧ tyErrAt l i = 3) ∨ (nameErr l[i].n = 0 ∧ ((hasTy (l.take i) l[i].n = true ∧ tyErrAt l i = 6) ∨ (hasTy (l.take i) l[i].n = false ∧ tyErrAt l i = l[i].err))) := by
  unfold tyErrAt
  rw [List.getElem?_eq_getElem h]
  simp only []
  rcases nameErr_cases l[i].n with ⟨e, -⟩ | ⟨e, -⟩
  · exact .inl ⟨e, if_pos (by omega)⟩
  · refine .inr ⟨e, ?_⟩
    rw [if_neg (by omega)]
    by_cases h2 : hasTy (l.take i) l[i].n = true
    · exact .inl ⟨h2, if_pos h2⟩
    · exact .inr ⟨by simpa using h2, if_neg h2⟩
theorem typesErr_none {l : List TY} (h : ∀ j, j < l.length → tyErrAt l j = 0) (hl : l.length ≤ 40) : typesErr l = 0 := by
  unfold typesErr
  rw [if_neg (by omega), firstErr_none h]
theorem typesErr_first {l : List TY} {k : Nat} (hl : l.length ≤ 40) (hk : k < l.length) (h : ∀ j, j < k → tyErrAt l j = 0) (hne : tyErrAt l k ≠ 0) : typesErr l = tyErrAt l k := by
  unfold typesErr
  rw [if_neg (by omega), firstErr_first h hne hk]
theorem typesErr_large {l : List TY} (h : 40 < l.length) : typesErr l = 4 := if_pos h
/-- Slices with room. -/
def CapAt (l : List TY) (c : Nat) : Prop := l.length ≤ c

set_option maxHeartbeats 12800000 in
set_option maxRecDepth 100000 in
theorem checkTypes_any (l : List TY) (A : Option Addr) (c : Nat) (w : World) (hA : TsAt w A l) (hcap : l.length ≤ c) :
    Calls Tryd.prog 8 #[.slice A l.length c] w fun e w' => e = .returned (.int .i64 (typesErr l)) ∧ Below w.heap.size w w' := by
  have hm := hA.1
  unfold maxLen at hm
  by_cases h40 : 40 < l.length
  · rw [typesErr_large h40]
    have hn : (40 : Int) < (l.length : Int) := by omega
    clear hA
    go_enter Tryd.func8, Tryd.ntmps8
    go_wp2
    go_ret
    exact ⟨rfl, (by repeat (first | exact Below.refl _ _ | refine bl_plus ?_ | refine bl_alloc ?_ _ | refine bl_drew ?_ | refine bl_drewN ?_ _))⟩
  have HN := hide (fun h => typesErr_none (l := l) h (by omega))
  have HF := hide (fun k hk h hne => typesErr_first (l := l) (k := k) (by omega) hk h hne)
  have HA := hide hA
  clear hA
  generalize typesErr l = R at *
  have hn : ¬ (40 : Int) < (l.length : Int) := by omega
  go_enter Tryd.func8, Tryd.ntmps8
  go_wp2
  clear h40 hn
  go_loopw [12] (fun i wr => ∃ (k : Nat) (os : Array Obj) (n : Nat), k ≤ l.length ∧ i = .int .i64 k ∧ Hid (∀ j, j < k → tyErrAt l j = 0) ∧ wr = plus w os n) (fun i _ => l.length - (intOf i).toNat)
  case atStart => exact ⟨0, #[], _, Nat.zero_le _, rfl, hide (fun j hj => by omega), plus_nil.symm⟩
  case round =>
    obtain ⟨q, os, n, hq, rfl, HK, rfl⟩ := hrel
    by_cases hlt : q < l.length
    · obtain ⟨b, o, rfl, hb, hv⟩ := HA.out.2 (by omega)
      have hf := HF.out q hlt HK.out
      have hqc : (q : Int) ≤ (c : Int) := by omega
      have HNXT := hide (fun (h : tyErrAt l q = 0) j (hj : j < q + 1) => (by
        rcases Nat.lt_or_ge j q with g | g
        · exact HK.out j g
        · obtain rfl : j = q := by omega
          exact h : tyErrAt l j = 0))
      obtain ⟨c0, hns, c1, c2, c4, c5, A2, e2, c3, hS, hcap2⟩ := hv q hlt
      have hcs := tyErr_cases hlt
      have HCN := hide (fun w => checkName_any l[q].n w)
      have HT := hide (fun g W (hbw : Below w.heap.size w W) (hx : W.cell? ⟨g, 0, none⟩ = some (.string l[q].n)) (hg : g < W.heap.size) => containsTy_any 22 (some ⟨b, o, none⟩) c q (l.take q) g l[q].n W (by rw [List.length_take]; omega) ((HA.out.take q).below hbw) hx hg (.inl rfl))
      have HCT := hide (fun W (hbw : Below w.heap.size w W) => checkType_any l[q] A2 e2 W (hS.below hbw) hcap2)
      clear hv hS HK HA HN HF hns
      generalize tyErrAt l q = E at *
      generalize nameErr l[q].n = NE at *
      generalize l[q].err = TE at *
      generalize hasTy (l.take q) l[q].n = HB at *
      generalize l[q] = x at *
      obtain ⟨xn, xk, xb, xc, xl, xh⟩ := x
      simp only [TY.arg] at *
      rcases hcs with ⟨hN, hE⟩ | ⟨hN, ⟨hT, hE⟩ | ⟨hT, hE⟩⟩
      · subst hN hE
        obtain rfl := hf (by decide)
        clear HNXT HCT
        go_wp2_with (go_at_call 20; refine (HCN.out _).mono ?_; rintro e w' ⟨rfl, hbl⟩; obtain ⟨os1, n1, rfl⟩ := below_plus hbl; clear hbl)
        go_ret
        exact ⟨rfl, (by repeat (first | exact Below.refl _ _ | refine bl_plus ?_ | refine bl_alloc ?_ _ | refine bl_drew ?_ | refine bl_drewN ?_ _))⟩
      · subst hN hE hT
        obtain rfl := hf (by decide)
        clear HNXT HCT
        go_wp2_with (first | (go_at_call 20; refine (HCN.out _).mono ?_; rintro e w' ⟨rfl, hbl⟩; obtain ⟨os1, n1, rfl⟩ := below_plus hbl; clear hbl) | (go_at_call 21; refine (HT.out _ _ ?hbw ?hx ?hg).mono ?_; (case hbw => repeat (first | exact Below.refl _ _ | refine bl_plus ?_ | refine bl_alloc ?_ _ | refine bl_drew ?_ | refine bl_drewN ?_ _)); (case hx => (go_simp)); (case hg => (go_simp)); rintro e w' ⟨rfl, hbl⟩; obtain ⟨os2, n2, rfl⟩ := below_plus hbl; clear hbl))
        go_ret
        exact ⟨rfl, (by repeat (first | exact Below.refl _ _ | refine bl_plus ?_ | refine bl_alloc ?_ _ | refine bl_drew ?_ | refine bl_drewN ?_ _))⟩
      · subst hN hE hT
        by_cases hz : E = 0
        · subst hz
          clear hf
          go_wp2_with (first | (go_at_call 20; refine (HCN.out _).mono ?_; rintro e w' ⟨rfl, hbl⟩; obtain ⟨os1, n1, rfl⟩ := below_plus hbl; clear hbl) | (go_at_call 21; refine (HT.out _ _ ?hbw ?hx ?hg).mono ?_; (case hbw => repeat (first | exact Below.refl _ _ | refine bl_plus ?_ | refine bl_alloc ?_ _ | refine bl_drew ?_ | refine bl_drewN ?_ _)); (case hx => (go_simp)); (case hg => (go_simp)); rintro e w' ⟨rfl, hbl⟩; obtain ⟨os2, n2, rfl⟩ := below_plus hbl; clear hbl) | (go_at_call 23; refine (HCT.out _ ?hbw).mono ?_; (case hbw => repeat (first | exact Below.refl _ _ | refine bl_plus ?_ | refine bl_alloc ?_ _ | refine bl_drew ?_ | refine bl_drewN ?_ _)); rintro e w' ⟨rfl, hbl⟩; obtain ⟨os3, n3, rfl⟩ := below_plus hbl; clear hbl))
          go_roundw
          case rel => exact ⟨q + 1, _, _, hlt, by go_num, hide (HNXT.out (by trivial)), by first | rfl | (rw [plus_alloc, plus_plus, plus_plus, plus_plus]) | (rw [plus_alloc, plus_plus, plus_drewN, plus_plus]) | (rw [plus_alloc, plus_plus])⟩
          case measure => simp [intOf]; omega
        · obtain rfl := hf hz
          have q1 := bne_iff_ne.2 hz
          clear hz HNXT
          go_wp2_with (first | (go_at_call 20; refine (HCN.out _).mono ?_; rintro e w' ⟨rfl, hbl⟩; obtain ⟨os1, n1, rfl⟩ := below_plus hbl; clear hbl) | (go_at_call 21; refine (HT.out _ _ ?hbw ?hx ?hg).mono ?_; (case hbw => repeat (first | exact Below.refl _ _ | refine bl_plus ?_ | refine bl_alloc ?_ _ | refine bl_drew ?_ | refine bl_drewN ?_ _)); (case hx => (go_simp)); (case hg => (go_simp)); rintro e w' ⟨rfl, hbl⟩; obtain ⟨os2, n2, rfl⟩ := below_plus hbl; clear hbl) | (go_at_call 23; refine (HCT.out _ ?hbw).mono ?_; (case hbw => repeat (first | exact Below.refl _ _ | refine bl_plus ?_ | refine bl_alloc ?_ _ | refine bl_drew ?_ | refine bl_drewN ?_ _)); rintro e w' ⟨rfl, hbl⟩; obtain ⟨os3, n3, rfl⟩ := below_plus hbl; clear hbl))
          go_ret
          exact ⟨rfl, (by repeat (first | exact Below.refl _ _ | refine bl_plus ?_ | refine bl_alloc ?_ _ | refine bl_drew ?_ | refine bl_drewN ?_ _))⟩
    · have hR : R = 0 := HN.out (fun j hj => HK.out j (by omega))
      subst hR
      obtain rfl : q = l.length := by omega
      go_wp2
      go_ret
      exact ⟨rfl, (by repeat (first | exact Below.refl _ _ | refine bl_plus ?_ | refine bl_alloc ?_ _ | refine bl_drew ?_ | refine bl_drewN ?_ _))⟩

end Go.Proofs.YtpbkidjbbhkjnaaDoor
