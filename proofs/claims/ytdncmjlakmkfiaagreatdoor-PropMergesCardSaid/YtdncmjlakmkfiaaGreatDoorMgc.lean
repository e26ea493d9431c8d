/-
  WALKS: slices.IndexFunc and ContainsFunc at values, any function that keeps what it captures.
-/
import Derived.Test.YtdncmjlakmkfiaaGreatDoorCpv
import Derived.Test.YtdncmjlakmkfiaaGreatDoorVal
import Derived.Test.YtdncmjlakmkfiaaGreatDoorValC
set_option linter.all false
namespace Go.Proofs.YtdncmjlakmkfiaaGreatDoor
open Go.RowKit

theorem mv_drewN {w : World} {os : Array Obj} {n k : Nat} : (plus w os n).drewN k = plus w os (n + k) := rfl

/-- What IndexFunc says: the first place at which the function says yes, or -1. -/
def IdxVIs (P : V → Bool) (xs : List V) (r : Int) : Prop := (∃ k : Nat, ∃ h : k < xs.length, r = k ∧ P xs[k] = true) ∨ (r = -1 ∧ ∀ x ∈ xs, P x = false)

def IdxVOut (P : V → Bool) (xs : List V) (w : World) (e : Ending) (w' : World) : Prop := ∃ r : Int, e = .returned (.int .i64 r) ∧ IdxVIs P xs r ∧ Below w.heap.size w w'

set_option maxHeartbeats 3200000 in
set_option maxRecDepth 100000 in
theorem indexFnV_any (fid : FuncId) (cb : Array Value) (P : V → Bool) (A : Option Addr) (c : Nat) (xs : List V) (w : World) (hA : LAt w A xs) (ent : ∀ args w, (callFunc fid args).run Tryz.prog w = .ok (.enter fid args) w)
    (hF : ∀ x ∈ xs, ∀ (A2 : Option Addr) (c2 : Nat) W, Below w.heap.size w W → LAt W A2 x.l → Calls Tryz.prog fid (#[x.arg A2 c2] ++ cb) W fun e w' => e = .returned (.bool (P x)) ∧ Below W.heap.size W w') :
    Calls Tryz.prog 143 #[.slice A xs.length c, .func (.func fid) #[] cb] w (IdxVOut P xs w) := by
  have hm := hA.1
  unfold maxLen at hm
  have HPO := hide (show ∀ (r : Int) w', IdxVIs P xs r → Below w.heap.size w w' → IdxVOut P xs w (.returned (.int .i64 r)) w' from fun r w' h1 h2 => ⟨r, rfl, h1, h2⟩)
  generalize IdxVOut P xs w = PO at *
  have HA := hide hA
  have HF := hide hF
  clear hA hF
  go_enter Tryz.func143, Tryz.ntmps143
  go_wp2
  go_loopw [8] (fun i wr => ∃ (k : Nat) (os : Array Obj) (n : Nat), k ≤ xs.length ∧ i = .int .i64 k ∧ wr = plus w os n ∧ Hid (∀ j (h : j < xs.length), j < k → P xs[j] = false)) (fun i _ => xs.length - (RowKit.intOf i).toNat)
  case atStart => exact ⟨0, #[], _, Nat.zero_le _, rfl, plus_nil.symm, hide (fun j h hj => by omega)⟩
  case round =>
    obtain ⟨k, os, n, hk, rfl, rfl, HN⟩ := hrel
    by_cases hlt : k < xs.length
    · obtain ⟨b, o, rfl, hb, hv⟩ := HA.out.2 (by omega)
      obtain ⟨c0, c1, c2, c3, A2, e2, c4, hl2⟩ := VAt_iff.1 (hv k hlt)
      have HL2 := hide hl2
      have HC := hide (fun W hbw => HF.out xs[k] (List.getElem_mem hlt) A2 e2 W hbw (HL2.out.below hbw))
      have HY := hide (fun (h : P xs[k] = true) => (.inl ⟨k, hlt, rfl, h⟩ : IdxVIs P xs k))
      have HNX := hide (fun (h : P xs[k] = false) j (hj : j < xs.length) (hjk : j < k + 1) => (by
        rcases Nat.lt_or_ge j k with g | g
        · exact HN.out j hj g
        · obtain rfl : j = k := by omega
          exact h : P xs[j] = false))
      clear hv HF HA HN hl2 HL2
      generalize xs[k] = x at *
      obtain ⟨xk, xi, xt, xs2, xl⟩ := x
      simp only [V.arg, V.k, V.i, V.t, V.s, V.l] at *
      cases hB : P (.mk xk xi xt xs2 xl) with
      | true =>
        rw [hB] at HC HY
        have HR := hide (HY.out rfl)
        clear HNX HY hB
        go_wp2_with (go_at_fn fid; refine (HC.out _ ?hbw).mono ?_; (case hbw => exact (by repeat (first | with_reducible exact Below.refl _ _ | with_reducible refine bl_plus ?_ | with_reducible refine bl_alloc ?_ _ | with_reducible refine bl_drew ?_ | with_reducible refine bl_drewN ?_ _))); rintro e w' ⟨rfl, hbl⟩; obtain ⟨os1, n1, rfl⟩ := below_plus hbl; clear hbl)
        exact HPO.out _ _ HR.out (by repeat (first | with_reducible exact Below.refl _ _ | with_reducible refine bl_plus ?_ | with_reducible refine bl_alloc ?_ _ | with_reducible refine bl_drew ?_ | with_reducible refine bl_drewN ?_ _))
      | false =>
        rw [hB] at HC HNX
        have HR := hide (HNX.out rfl)
        clear HNX HY hB
        go_wp2_with (go_at_fn fid; refine (HC.out _ ?hbw).mono ?_; (case hbw => exact (by repeat (first | with_reducible exact Below.refl _ _ | with_reducible refine bl_plus ?_ | with_reducible refine bl_alloc ?_ _ | with_reducible refine bl_drew ?_ | with_reducible refine bl_drewN ?_ _))); rintro e w' ⟨rfl, hbl⟩; obtain ⟨os1, n1, rfl⟩ := below_plus hbl; clear hbl)
        go_roundw
        case rel => exact ⟨k + 1, _, _, hlt, by go_num, by first | rfl | (simp only [plus_alloc, plus_plus, mv_drewN, plus_drew]; rfl), HR⟩
        case measure => simp [RowKit.intOf]; omega
    · obtain rfl : k = xs.length := by omega
      have HR := hide (show IdxVIs P xs (-1) from .inr ⟨rfl, fun x hx => by
        obtain ⟨j, hj, rfl⟩ := List.mem_iff_getElem.1 hx
        exact HN.out j hj hj⟩)
      clear HF HA HN
      go_wp2
      exact HPO.out _ _ HR.out (by repeat (first | with_reducible exact Below.refl _ _ | with_reducible refine bl_plus ?_ | with_reducible refine bl_alloc ?_ _ | with_reducible refine bl_drew ?_ | with_reducible refine bl_drewN ?_ _))

set_option maxHeartbeats 1600000 in
theorem containsFnV_any (fid : FuncId) (cb : Array Value) (P : V → Bool) (A : Option Addr) (c : Nat) (xs : List V) (w : World) (hA : LAt w A xs) (ent : ∀ args w, (callFunc fid args).run Tryz.prog w = .ok (.enter fid args) w)
    (hF : ∀ x ∈ xs, ∀ (A2 : Option Addr) (c2 : Nat) W, Below w.heap.size w W → LAt W A2 x.l → Calls Tryz.prog fid (#[x.arg A2 c2] ++ cb) W fun e w' => e = .returned (.bool (P x)) ∧ Below W.heap.size W w') :
    Calls Tryz.prog 86 #[.slice A xs.length c, .func (.func fid) #[] cb] w fun e w' => e = .returned (.bool (xs.any P)) ∧ Below w.heap.size w w' := by
  have HI := hide (indexFnV_any fid cb P A c xs w hA ent hF)
  unfold IdxVOut at HI
  have hdec : ∀ r, IdxVIs P xs r → decide (0 ≤ r) = xs.any P := by
    intro r h
    rcases h with ⟨k, hk, rfl, hp⟩ | ⟨rfl, hp⟩
    · rw [decide_eq_true (by omega)]
      exact (List.any_eq_true.2 ⟨_, List.getElem_mem hk, hp⟩).symm
    · rw [decide_eq_false (by omega)]
      symm
      rw [List.any_eq_false]
      intro x hx
      rw [hp x hx]
      decide
  have HD := hide hdec
  generalize xs.any P = R at *
  clear hA hF hdec
  go_enter Tryz.func86, Tryz.ntmps86
  go_wp2_with (go_at_call 143; (with_reducible refine HI.out.mono ?_); rintro e w' ⟨r, rfl, hr, hbl⟩; have HR := hide (HD.out r hr); obtain ⟨os1, n1, rfl⟩ := below_plus hbl; clear hbl hr)
  go_ret
  exact ⟨congrArg (fun b => Ending.returned (.bool b)) HR.out, (by repeat (first | with_reducible exact Below.refl _ _ | with_reducible refine bl_plus ?_ | with_reducible refine bl_alloc ?_ _ | with_reducible refine bl_drew ?_ | with_reducible refine bl_drewN ?_ _))⟩

end Go.Proofs.YtdncmjlakmkfiaaGreatDoor
/-
  WALKS: are two values alike? Is one of a list's alike to a value?
-/
namespace Go.Proofs.YtdncmjlakmkfiaaGreatDoor
open Go.RowKit

/-- The cells of a box that holds a value. -/
def BoxV (w : World) (g : Nat) (x : V) (A : Option Addr) (c : Nat) : Prop := w.cell? ⟨g, 0, none⟩ = some (.int .i64 x.k) ∧ w.cell? ⟨g, 1, none⟩ = some (.int .i64 x.i) ∧ w.cell? ⟨g, 2, none⟩ = some (.int .i64 x.t) ∧ w.cell? ⟨g, 3, none⟩ = some (.string x.s) ∧ w.cell? ⟨g, 4, none⟩ = some (.slice A x.l.length c) ∧ g < w.heap.size

theorem BoxV.below {w w' : World} {g : Nat} {x : V} {A : Option Addr} {c : Nat} (h : BoxV w g x A c) (hb : Below w.heap.size w w') : BoxV w' g x A c := by
  obtain ⟨h0, h1, h2, h3, h4, h5⟩ := h
  exact ⟨(hb.cell (p := ⟨g, 0, none⟩) h5).trans h0, (hb.cell (p := ⟨g, 1, none⟩) h5).trans h1, (hb.cell (p := ⟨g, 2, none⟩) h5).trans h2, (hb.cell (p := ⟨g, 3, none⟩) h5).trans h3, (hb.cell (p := ⟨g, 4, none⟩) h5).trans h4, Nat.lt_of_lt_of_le h5 hb.size⟩

theorem boxV_new (w : World) (y : V) (B : Option Addr) (d : Nat) : BoxV (w.alloc (.cells #[.int .i64 y.k, .int .i64 y.i, .int .i64 y.t, .string y.s, .slice B y.l.length d] 24)) w.heap.size y B d := by
  have h := Blk.new w 24 #[.int .i64 y.k, .int .i64 y.i, .int .i64 y.t, .string y.s, .slice B y.l.length d]
  exact ⟨h.cell 0, h.cell 1, h.cell 2, h.cell 3, h.cell 4, h.lt⟩

theorem info_valM : (Tryz.prog.info? 24).map (fun i => (i.zero, i.size, i.bytes)) = some (some (.agg #[.int .i64 0, .int .i64 0, .int .i64 0, .string ByteArray.empty, .slice none 0 0]), 5, 64) := by kernel_rfl

set_option maxHeartbeats 1600000 in
set_option maxRecDepth 100000 in
theorem same_any (x y : V) (A B : Option Addr) (c d : Nat) (w : World) (hA : LAt w A x.l) (hB : LAt w B y.l) :
    Calls Tryz.prog 78 #[x.arg A c, y.arg B d] w fun e w' => e = .returned (.bool (eqv x y)) ∧ Below w.heap.size w w' := by
  have HC := hide (fun W (hb : Below w.heap.size w W) => compareP x y A B c d W (hA.below hb) (hB.below hb))
  unfold CmpOut at HC
  have HE := hide (show eqv x y = (cmpV x y == 0) from rfl)
  generalize cmpV x y = r at *
  generalize eqv x y = E at *
  clear hA hB
  obtain ⟨xk, xi, xt, xs, xl⟩ := x
  obtain ⟨yk, yi, yt, ys, yl⟩ := y
  simp only [V.arg, V.k, V.i, V.t, V.s, V.l] at *
  go_enter Tryz.func78, Tryz.ntmps78
  go_wp2_with (go_at_call 126; (refine (HC.out _ (by repeat (first | exact Below.refl _ _ | with_reducible refine bl_plus ?_ | with_reducible refine bl_alloc ?_ _ | with_reducible refine bl_drew ?_ | with_reducible refine bl_drewN ?_ _))).mono ?_); rintro e w' ⟨rfl, hbl⟩; obtain ⟨os1, n1, rfl⟩ := below_plus hbl; clear hbl)
  go_ret
  exact ⟨congrArg (fun b => Ending.returned (.bool b)) HE.out.symm, (by repeat (first | exact Below.refl _ _ | with_reducible refine bl_plus ?_ | with_reducible refine bl_alloc ?_ _ | with_reducible refine bl_drew ?_ | with_reducible refine bl_drewN ?_ _))⟩

set_option maxHeartbeats 1600000 in
set_option maxRecDepth 100000 in
theorem has1_any (x y : V) (A B : Option Addr) (c d g : Nat) (w : World) (hA : LAt w A x.l) (hB : LAt w B y.l) (hg : BoxV w g y B d) :
    Calls Tryz.prog 171 #[x.arg A c, .pointer (some ⟨g, 0, none⟩)] w fun e w' => e = .returned (.bool (eqv x y)) ∧ Below w.heap.size w w' := by
  have HC := hide (fun W (hb : Below w.heap.size w W) => same_any x y A B c d W (hA.below hb) (hB.below hb))
  obtain ⟨c0, c1, c2, c3, c4, hlt⟩ := hg
  generalize eqv x y = E at *
  clear hA hB
  obtain ⟨xk, xi, xt, xs, xl⟩ := x
  obtain ⟨yk, yi, yt, ys, yl⟩ := y
  simp only [V.arg, V.k, V.i, V.t, V.s, V.l] at *
  go_enter Tryz.func171, Tryz.ntmps171
  go_wp2_with (go_at_call 78; (refine (HC.out _ (by repeat (first | exact Below.refl _ _ | with_reducible refine bl_plus ?_ | with_reducible refine bl_alloc ?_ _ | with_reducible refine bl_drew ?_ | with_reducible refine bl_drewN ?_ _))).mono ?_); rintro e w' ⟨rfl, hbl⟩; obtain ⟨os1, n1, rfl⟩ := below_plus hbl; clear hbl)
  go_ret
  exact ⟨rfl, (by repeat (first | exact Below.refl _ _ | with_reducible refine bl_plus ?_ | with_reducible refine bl_alloc ?_ _ | with_reducible refine bl_drew ?_ | with_reducible refine bl_drewN ?_ _))⟩

theorem ent_has1 : ∀ args w, (callFunc 171 args).run Tryz.prog w = .ok (.enter 171 args) w := fun args w => Go.Proofs.enters_of Tryz.func171 (by kernel_rfl) rfl args w

set_option maxHeartbeats 1600000 in
set_option maxRecDepth 100000 in
theorem has_any (l : List V) (y : V) (A B : Option Addr) (c d : Nat) (w : World) (hA : LAt w A l) (hB : LAt w B y.l) :
    Calls Tryz.prog 128 #[.slice A l.length c, y.arg B d] w fun e w' => e = .returned (.bool (hasV l y)) ∧ Below w.heap.size w w' := by
  have HC := hide (fun W (hb : Below w.heap.size w W) (g : Nat) (hg : BoxV W g y B d) => containsFnV_any 171 #[.pointer (some ⟨g, 0, none⟩)] (fun x => eqv x y) A c l W (hA.below hb) ent_has1 (fun x _ A2 c2 W2 hb2 hx => has1_any x y A2 B c2 d g W2 hx ((hB.below hb).below hb2) (hg.below hb2)))
  have HE := hide (show hasV l y = l.any (fun x => eqv x y) from rfl)
  generalize l.any (fun x => eqv x y) = E at *
  generalize hasV l y = E2 at *
  have HBX := hide (fun (w : World) => boxV_new w y B d)
  have hlen := hA.1
  unfold maxLen at hlen
  clear hA hB
  obtain ⟨yk, yi, yt, ys, yl⟩ := y
  simp only [V.arg, V.k, V.i, V.t, V.s, V.l] at *
  go_enter Tryz.func128, Tryz.ntmps128
  go_wp2_with (go_at_call 86; (refine (HC.out _ (by repeat (first | exact Below.refl _ _ | with_reducible refine bl_plus ?_ | with_reducible refine bl_alloc ?_ _ | with_reducible refine bl_drew ?_ | with_reducible refine bl_drewN ?_ _)) _ (HBX.out _)).mono ?_); rintro e w' ⟨rfl, hbl⟩; obtain ⟨os1, n1, rfl⟩ := below_plus hbl; clear hbl)
  go_ret
  exact ⟨congrArg (fun b => Ending.returned (.bool b)) HE.out.symm, (by repeat (first | exact Below.refl _ _ | with_reducible refine bl_plus ?_ | with_reducible refine bl_alloc ?_ _ | with_reducible refine bl_drew ?_ | with_reducible refine bl_drewN ?_ _))⟩

set_option maxHeartbeats 1600000 in
set_option maxRecDepth 100000 in
theorem hasR1_any (x y : V) (A B : Option Addr) (c d g : Nat) (w : World) (hA : LAt w A x.l) (hB : LAt w B y.l) (hg : BoxV w g y B d) :
    Calls Tryz.prog 87 #[x.arg A c, .pointer (some ⟨g, 0, none⟩)] w fun e w' => e = .returned (.bool (eqv y x)) ∧ Below w.heap.size w w' := by
  have HC := hide (fun W (hb : Below w.heap.size w W) => compareR y x B A d c W (hB.below hb) (hA.below hb))
  unfold CmpOut at HC
  have HE := hide (show eqv y x = (cmpV y x == 0) from rfl)
  generalize cmpV y x = r at *
  generalize eqv y x = E at *
  obtain ⟨c0, c1, c2, c3, c4, hlt⟩ := hg
  clear hA hB
  obtain ⟨xk, xi, xt, xs, xl⟩ := x
  obtain ⟨yk, yi, yt, ys, yl⟩ := y
  simp only [V.arg, V.k, V.i, V.t, V.s, V.l] at *
  go_enter Tryz.func87, Tryz.ntmps87
  go_wp2_with (go_at_call 84; (refine (HC.out _ (by repeat (first | exact Below.refl _ _ | with_reducible refine bl_plus ?_ | with_reducible refine bl_alloc ?_ _ | with_reducible refine bl_drew ?_ | with_reducible refine bl_drewN ?_ _))).mono ?_); rintro e w' ⟨rfl, hbl⟩; obtain ⟨os1, n1, rfl⟩ := below_plus hbl; clear hbl)
  go_ret
  exact ⟨congrArg (fun b => Ending.returned (.bool b)) HE.out.symm, (by repeat (first | exact Below.refl _ _ | with_reducible refine bl_plus ?_ | with_reducible refine bl_alloc ?_ _ | with_reducible refine bl_drew ?_ | with_reducible refine bl_drewN ?_ _))⟩

theorem ent_hasR1 : ∀ args w, (callFunc 87 args).run Tryz.prog w = .ok (.enter 87 args) w := fun args w => Go.Proofs.enters_of Tryz.func87 (by kernel_rfl) rfl args w

set_option maxHeartbeats 1600000 in
set_option maxRecDepth 100000 in
theorem hasR_any (l : List V) (y : V) (A B : Option Addr) (c d : Nat) (w : World) (hA : LAt w A l) (hB : LAt w B y.l) :
    Calls Tryz.prog 85 #[.slice A l.length c, y.arg B d] w fun e w' => e = .returned (.bool (hasV l y)) ∧ Below w.heap.size w w' := by
  have HC := hide (fun W (hb : Below w.heap.size w W) (g : Nat) (hg : BoxV W g y B d) => containsFnV_any 87 #[.pointer (some ⟨g, 0, none⟩)] (fun x => eqv y x) A c l W (hA.below hb) ent_hasR1 (fun x _ A2 c2 W2 hb2 hx => hasR1_any x y A2 B c2 d g W2 hx ((hB.below hb).below hb2) (hg.below hb2)))
  have HE := hide (show hasV l y = l.any (fun x => eqv y x) from by unfold hasV; congr 1; funext x; exact eqv_comm x y)
  generalize l.any (fun x => eqv y x) = E at *
  generalize hasV l y = E2 at *
  have HBX := hide (fun (w : World) => boxV_new w y B d)
  have hlen := hA.1
  unfold maxLen at hlen
  clear hA hB
  obtain ⟨yk, yi, yt, ys, yl⟩ := y
  simp only [V.arg, V.k, V.i, V.t, V.s, V.l] at *
  go_enter Tryz.func85, Tryz.ntmps85
  go_wp2_with (go_at_call 86; (refine (HC.out _ (by repeat (first | exact Below.refl _ _ | with_reducible refine bl_plus ?_ | with_reducible refine bl_alloc ?_ _ | with_reducible refine bl_drew ?_ | with_reducible refine bl_drewN ?_ _)) _ (HBX.out _)).mono ?_); rintro e w' ⟨rfl, hbl⟩; obtain ⟨os1, n1, rfl⟩ := below_plus hbl; clear hbl)
  go_ret
  exact ⟨congrArg (fun b => Ending.returned (.bool b)) HE.out.symm, (by repeat (first | exact Below.refl _ _ | with_reducible refine bl_plus ?_ | with_reducible refine bl_alloc ?_ _ | with_reducible refine bl_drew ?_ | with_reducible refine bl_drewN ?_ _))⟩

end Go.Proofs.YtdncmjlakmkfiaaGreatDoor
