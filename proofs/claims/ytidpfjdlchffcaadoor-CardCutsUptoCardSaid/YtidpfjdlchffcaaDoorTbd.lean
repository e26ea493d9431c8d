/-
  WALKS: where a block with a number is: looked for from the front, and by halves.
-/
import Derived.Test.YtidpfjdlchffcaaDoorTbb
import Derived.Test.YtidpfjdlchffcaaDoorTbp
import Derived.Deep.LoopGhost
set_option linter.all false
namespace Go.Proofs.YtidpfjdlchffcaaDoor
open Go.RowKit

/-- A place, or -1. -/
def ixI (l : List BK) (k : Int) : Int := match ixOf l k with
  | some n => n
  | none => -1

/-- The cells of a block. -/
theorem BsAt.get {w : World} {A : Option Addr} {l : List BK} (h : BsAt w A l) {q : Nat} (hq : q < l.length) : ∃ b o A1 c1 A2 c2, A = some ⟨b, o, none⟩ ∧ b < w.heap.size ∧ w.cell? ⟨b, o + q * 5, none⟩ = some (.int .i64 l[q].id) ∧ w.cell? ⟨b, o + q * 5 + 1, none⟩ = some (.int .i64 l[q].par) ∧
    w.cell? ⟨b, o + q * 5 + 2, none⟩ = some (.slice A1 l[q].kids.length c1) ∧ w.cell? ⟨b, o + q * 5 + 3, none⟩ = some (.string l[q].txt) ∧ w.cell? ⟨b, o + q * 5 + 4, none⟩ = some (.slice A2 l[q].ps.length c2) ∧ IntsAt w A1 l[q].kids ∧ PsAt w A2 l[q].ps := by
  obtain ⟨b, o, hA, hb, hj⟩ := h.2 (by omega)
  obtain ⟨h0, h1, h3, A1, c1, A2, c2, h2, h5, h4, h6⟩ := hj q hq
  exact ⟨b, o, A1, c1, A2, c2, hA, hb, h0, h1, h2, h3, h4, h5, h6.1⟩

/-- .. now, with the capacity of its kids; its lists, as they came in. -/
theorem BsAt.getC {w W : World} {A : Option Addr} {l : List BK} (h : BsAt w A l) (hb : Below w.heap.size w W) {q : Nat} (hq : q < l.length) : ∃ b o A1 c1 A2 c2, A = some ⟨b, o, none⟩ ∧ b < W.heap.size ∧ W.cell? ⟨b, o + q * 5, none⟩ = some (.int .i64 l[q].id) ∧ W.cell? ⟨b, o + q * 5 + 1, none⟩ = some (.int .i64 l[q].par) ∧
    W.cell? ⟨b, o + q * 5 + 2, none⟩ = some (.slice A1 l[q].kids.length c1) ∧ W.cell? ⟨b, o + q * 5 + 3, none⟩ = some (.string l[q].txt) ∧ W.cell? ⟨b, o + q * 5 + 4, none⟩ = some (.slice A2 l[q].ps.length c2) ∧ IntsAt w A1 l[q].kids ∧ PsAt w A2 l[q].ps ∧ l[q].kids.length ≤ c1 := by
  obtain ⟨b, o, hA, hlt, hj⟩ := h.2 (by omega)
  obtain ⟨h0, h1, h3, A1, c1, A2, c2, h2, h5, h4, h6, h7⟩ := hj q hq
  exact ⟨b, o, A1, c1, A2, c2, hA, Nat.lt_of_lt_of_le hlt hb.size, (hb.cell (p := ⟨b, o + q * 5, none⟩) hlt).trans h0, (hb.cell (p := ⟨b, o + q * 5 + 1, none⟩) hlt).trans h1, (hb.cell (p := ⟨b, o + q * 5 + 2, none⟩) hlt).trans h2, (hb.cell (p := ⟨b, o + q * 5 + 3, none⟩) hlt).trans h3, (hb.cell (p := ⟨b, o + q * 5 + 4, none⟩) hlt).trans h4, h5, h6, h7⟩

/-- A block as a value. -/
def BK.val (x : BK) (A1 : Option Addr) (c1 : Nat) (A2 : Option Addr) (c2 : Nat) : Value := .agg #[.int .i64 x.id, .int .i64 x.par, .slice A1 x.kids.length c1, .string x.txt, .slice A2 x.ps.length c2]

set_option maxHeartbeats 3200000 in
set_option maxRecDepth 100000 in
theorem atR_any (l : List BK) (A : Option Addr) (c : Nat) (k : Int) (w : World) (hA : BsAt w A l) :
    Calls Tryd.prog 24 #[.slice A l.length c, .int .i64 k] w fun e w' => e = .returned (.int .i64 (ixI l k)) ∧ Below w.heap.size w w' := by
  have hm := hA.1
  unfold maxLen at hm
  have HA := hide hA
  clear hA
  go_enter Tryd.func24, Tryd.ntmps24
  go_wp2
  go_loopw [9] (fun i wr => ∃ (q : Nat), q ≤ l.length ∧ i = .int .i64 q ∧ Hid (∀ j, j < q → isId l k j = false) ∧ Hid (Below w.heap.size w wr)) (fun i _ => l.length - (intOf i).toNat)
  case atStart => exact ⟨0, Nat.zero_le _, rfl, hide (fun j hj => absurd hj (by omega)), hide (by repeat (first | with_reducible exact Below.refl _ _ | with_reducible refine bl_plus ?_ | with_reducible refine bl_alloc ?_ _ | with_reducible refine bl_drew ?_ | with_reducible refine bl_drewN ?_ _))⟩
  case round =>
    obtain ⟨q, hq, rfl, HN, HB⟩ := hrel
    by_cases hlt : q < l.length
    · obtain ⟨b, o, A1, c1, A2, c2, rfl, hb, y0, y1, y2, y3, y4, -, -⟩ := (HA.out.below HB.out).get hlt
      have i1 : (q : Int) < (l.length : Int) := by omega
      have HID := hide (show isId l k q = (l[q].id == k) by unfold isId; rw [idAt_get hlt])
      generalize l[q] = x at *
      obtain ⟨xi, xp, xk, xt, xs⟩ := x
      simp only at *
      cases hk : (xi == k) with
      | true =>
        have HR := hide (show (q : Int) = ixI l k by unfold ixI ixOf; rw [firstIdx_some HN.out (by rw [HID.out, hk]) hlt])
        go_wp2
        go_ret
        rw [← HR.out]
        exact ⟨rfl, below_chainT HB.out (by repeat (first | with_reducible exact Below.refl _ _ | with_reducible refine bl_plus ?_ | with_reducible refine bl_alloc ?_ _ | with_reducible refine bl_drew ?_ | with_reducible refine bl_drewN ?_ _))⟩
      | false =>
        go_wp2
        go_roundw
        case rel => exact ⟨q + 1, hlt, by go_num, hide (fun j hj => by
          by_cases e : j = q
          · subst e; rw [HID.out, hk]
          · exact HN.out j (by omega)), hide (below_chainT HB.out (by repeat (first | with_reducible exact Below.refl _ _ | with_reducible refine bl_plus ?_ | with_reducible refine bl_alloc ?_ _ | with_reducible refine bl_drew ?_ | with_reducible refine bl_drewN ?_ _)))⟩
        case measure => simp [intOf]; omega
    · obtain rfl : q = l.length := by omega
      have HR := hide (show (-1 : Int) = ixI l k by unfold ixI ixOf; rw [firstIdx_none HN.out])
      go_wp2
      go_ret
      rw [← HR.out]
      exact ⟨rfl, below_chainT HB.out (by repeat (first | with_reducible exact Below.refl _ _ | with_reducible refine bl_plus ?_ | with_reducible refine bl_alloc ?_ _ | with_reducible refine bl_drew ?_ | with_reducible refine bl_drewN ?_ _))⟩

set_option maxHeartbeats 3200000 in
set_option maxRecDepth 100000 in
theorem cmpI_any (x : BK) (A1 A2 : Option Addr) (c1 c2 : Nat) (k : Int) (w : World) :
    Calls Tryd.prog 55 #[x.val A1 c1 A2 c2, .int .i64 k] w fun e w' => e = .returned (.int .i64 (wrap64 (x.id - k))) ∧ Below w.heap.size w w' := by
  obtain ⟨xi, xp, xk, xt, xs⟩ := x
  unfold BK.val
  go_enter Tryd.func55, Tryd.ntmps55
  go_wp2
  go_ret
  exact ⟨rfl, (by repeat (first | with_reducible exact Below.refl _ _ | with_reducible refine bl_plus ?_ | with_reducible refine bl_alloc ?_ _ | with_reducible refine bl_drew ?_ | with_reducible refine bl_drewN ?_ _))⟩

theorem wrap_diff {a k : Int} (h0 : 0 ≤ a) (h1 : a ≤ 1000000) (hk0 : 0 ≤ k) (hk1 : k ≤ 1000000) : wrap64 (a - k) = a - k := by unfold wrap64; omega

theorem wrap_zero {a k : Int} (h0 : 0 ≤ a) (h1 : a ≤ 1000000) (hk0 : -9223372036854775808 ≤ k) (hk1 : k ≤ 9223372036854775807) (h : wrap64 (a - k) = 0) : a = k := by
  unfold wrap64 at h
  omega

/-- Numbers that rise, and are small. -/
theorem Ids.bound {l : List BK} (I : Ids l) {q : Nat} (h : q < l.length) : 0 ≤ l[q].id ∧ l[q].id ≤ 1000000 := by
  by_cases e : q = 0
  · subst e
    have := I.zero h
    omega
  · have := I.pos q (by omega) h
    omega

set_option maxHeartbeats 3200000 in
set_option maxRecDepth 100000 in
theorem binS_any (l : List BK) (A : Option Addr) (c : Nat) (k : Int) (w : World) (hA : BsAt w A l) (I : Ids l) (hn : l.length ≤ 2000) (hk : -9223372036854775808 ≤ k ∧ k ≤ 9223372036854775807) :
    Calls Tryd.prog 54 #[.slice A l.length c, .int .i64 k, .func (.func 55) #[] #[]] w fun e w' => ∃ (i : Nat) (f : Bool), e = .returned (.tuple #[.int .i64 i, .bool f]) ∧ (f = true → ixOf l k = some i) ∧ (f = false → ixOf l k = none) ∧ Below w.heap.size w w' := by
  have HA := hide hA
  have HI := hide I
  have HK := hide hk
  have ent : ∀ args w, (callFunc 55 args).run Tryd.prog w = .ok (.enter 55 args) w := fun args w => Go.Proofs.enters_of Tryd.func55 (by kernel_rfl) rfl args w
  have HPO : Hid (∀ (i : Nat) (f : Bool) (w' : World), (f = true → ixOf l k = some i) → (f = false → ixOf l k = none) → Below w.heap.size w w' → (fun e w' => ∃ (i : Nat) (f : Bool), e = Ending.returned (.tuple #[.int .i64 i, .bool f]) ∧ (f = true → ixOf l k = some i) ∧ (f = false → ixOf l k = none) ∧ Below w.heap.size w w') (.returned (.tuple #[.int .i64 i, .bool f])) w') := hide fun i f w' h1 h2 h3 => ⟨i, f, rfl, h1, h2, h3⟩
  generalize (fun e w' => ∃ (i : Nat) (f : Bool), e = Ending.returned (.tuple #[.int .i64 i, .bool f]) ∧ (f = true → ixOf l k = some i) ∧ (f = false → ixOf l k = none) ∧ Below w.heap.size w w') = PO at *
  clear hA I hk
  go_enter Tryd.func54, Tryd.ntmps54
  go_wp2
  go_loopg [9, 10] l.length (fun kx s9 s10 wr => ∃ lo hi : Nat, s9 = .int .i64 lo ∧ s10 = .int .i64 hi ∧ lo ≤ hi ∧ hi ≤ l.length ∧ hi - lo ≤ kx ∧ Hid (Below w.heap.size w wr) ∧ Hid (∀ p (h : p < l.length), l[p].id = k → lo ≤ p ∧ p ≤ hi))
  case atStart => exact ⟨0, l.length, rfl, rfl, Nat.zero_le _, Nat.le_refl _, by omega, hide (by repeat (first | with_reducible exact Below.refl _ _ | with_reducible refine bl_plus ?_ | with_reducible refine bl_alloc ?_ _ | with_reducible refine bl_drew ?_ | with_reducible refine bl_drewN ?_ _)), hide (fun p h _ => ⟨Nat.zero_le _, by omega⟩)⟩
  case round =>
    obtain ⟨lo, hi, rfl, rfl, hlh, hin, hg, HB, HP⟩ := hrel
    by_cases hlt : lo < hi
    · have hm : (lo + hi) / 2 < l.length := by omega
      obtain ⟨b, o, A1, c1, A2, c2, rfl, hb, y0, y1, y2, y3, y4, -, -⟩ := (HA.out.below HB.out).get hm
      have HL := hide (show ∀ p (h : p < l.length), l[p].id = k → wrap64 (l[(lo + hi) / 2].id - k) = l[(lo + hi) / 2].id - k ∧ (l[(lo + hi) / 2].id < l[p].id → (lo + hi) / 2 < p) ∧ (¬ l[(lo + hi) / 2].id < l[p].id → p ≤ (lo + hi) / 2) from fun p h hpk => by
        have h1 := HI.out.bound h
        have h2 := HI.out.bound hm
        refine ⟨wrap_diff h2.1 h2.2 (by omega) (by omega), fun h3 => ?_, fun h3 => ?_⟩
        · refine Nat.lt_of_not_le fun h4 => ?_
          rcases Nat.lt_or_ge p ((lo + hi) / 2) with h5 | h5
          · have := HI.out.rise p _ h5 hm; omega
          · have : p = (lo + hi) / 2 := by omega
            subst this; omega
        · refine Nat.le_of_not_lt fun h4 => h3 (HI.out.rise _ p h4 h))
      have HC := hide (fun W => cmpI_any l[(lo + hi) / 2] A1 A2 c1 c2 k W)
      unfold BK.val at HC
      generalize l[(lo + hi) / 2] = x at *
      obtain ⟨xi, xp, xk, xt, xs⟩ := x
      simp only at *
      generalize hd : wrap64 (xi - k) = D at *
      have HD := hide hd
      clear hd
      by_cases hyx : D < 0
      · have HP2 := hide (show ∀ p (h : p < l.length), l[p].id = k → (lo + hi) / 2 + 1 ≤ p ∧ p ≤ hi from fun p h hpk => by
          obtain ⟨h1, h2, h3⟩ := HL.out p h hpk
          have := h2 (by omega)
          exact ⟨this, (HP.out p h hpk).2⟩)
        clear HL HP
        go_wp2_with (go_at_fn 55; refine (HC.out _).mono ?_; rintro e w' ⟨rfl, hbl⟩; have HB2 := hide (below_chainT HB.out (below_chainT (w := wr) (by repeat (first | with_reducible exact Below.refl _ _ | with_reducible refine bl_plus ?_ | with_reducible refine bl_alloc ?_ _ | with_reducible refine bl_drew ?_ | with_reducible refine bl_drewN ?_ _)) hbl)); clear hbl)
        go_roundg (hi - ((lo + hi) / 2 + 1))
        case measure => omega
        case rel => exact ⟨(lo + hi) / 2 + 1, hi, by rw [show ((lo : Int) + (hi : Int)) / 2 + 1 = (((lo + hi) / 2 + 1 : Nat) : Int) by omega], rfl, by omega, hin, Nat.le_refl _, HB2, HP2⟩
      · have HP2 := hide (show ∀ p (h : p < l.length), l[p].id = k → lo ≤ p ∧ p ≤ (lo + hi) / 2 from fun p h hpk => by
          obtain ⟨h1, h2, h3⟩ := HL.out p h hpk
          have := h3 (by omega)
          exact ⟨(HP.out p h hpk).1, this⟩)
        clear HL HP
        go_wp2_with (go_at_fn 55; refine (HC.out _).mono ?_; rintro e w' ⟨rfl, hbl⟩; have HB2 := hide (below_chainT HB.out (below_chainT (w := wr) (by repeat (first | with_reducible exact Below.refl _ _ | with_reducible refine bl_plus ?_ | with_reducible refine bl_alloc ?_ _ | with_reducible refine bl_drew ?_ | with_reducible refine bl_drewN ?_ _)) hbl)); clear hbl)
        go_roundg ((lo + hi) / 2 - lo)
        case measure => omega
        case rel => exact ⟨lo, (lo + hi) / 2, rfl, by rw [show ((lo : Int) + (hi : Int)) / 2 = (((lo + hi) / 2 : Nat) : Int) by omega], by omega, by omega, Nat.le_refl _, HB2, HP2⟩
    · obtain rfl : hi = lo := by omega
      by_cases hn2 : hi < l.length
      · obtain ⟨b, o, A1, c1, A2, c2, rfl, hb, y0, y1, y2, y3, y4, -, -⟩ := (HA.out.below HB.out).get hn2
        have HC := hide (fun W => cmpI_any l[hi] A1 A2 c1 c2 k W)
        have i1 : (hi : Int) < (l.length : Int) := by omega
        have HT := hide (show wrap64 (l[hi].id - k) = 0 → ixOf l k = some hi from fun h => by
          have h1 := HI.out.bound hn2
          have := wrap_zero h1.1 h1.2 HK.out.1 HK.out.2 h
          rw [← this]
          exact HI.out.ix hn2)
        have HF := hide (show ¬ wrap64 (l[hi].id - k) = 0 → ixOf l k = none from fun h => by
          cases hx : ixOf l k with
          | none => rfl
          | some p =>
            obtain ⟨hp, hid⟩ := ixOf_some hx
            rw [idAt_get hp] at hid
            have h9 := HP.out p hp hid
            obtain rfl : p = hi := by omega
            exfalso
            apply h
            rw [hid]
            unfold wrap64
            omega)
        clear HP
        unfold BK.val at HC
        generalize l[hi] = x at *
        obtain ⟨xi, xp, xk, xt, xs⟩ := x
        simp only at *
        generalize wrap64 (xi - k) = D at *
        by_cases hyx : D = 0
        · have HR := hide (HT.out hyx)
          have e1 : (D == 0) = true := by simpa using hyx
          clear hyx HT HF
          go_wp2_with (go_at_fn 55; refine (HC.out _).mono ?_; rintro e w' ⟨rfl, hbl⟩; have HB2 := hide (below_chainT HB.out (below_chainT (w := wr) (by repeat (first | with_reducible exact Below.refl _ _ | with_reducible refine bl_plus ?_ | with_reducible refine bl_alloc ?_ _ | with_reducible refine bl_drew ?_ | with_reducible refine bl_drewN ?_ _)) hbl)); clear hbl)
          exact HPO.out hi true _ (fun _ => HR.out) (fun h => by cases h) HB2.out
        · have HR := hide (HF.out hyx)
          have e1 : (D == 0) = false := by simpa using hyx
          clear hyx HT HF
          go_wp2_with (go_at_fn 55; refine (HC.out _).mono ?_; rintro e w' ⟨rfl, hbl⟩; have HB2 := hide (below_chainT HB.out (below_chainT (w := wr) (by repeat (first | with_reducible exact Below.refl _ _ | with_reducible refine bl_plus ?_ | with_reducible refine bl_alloc ?_ _ | with_reducible refine bl_drew ?_ | with_reducible refine bl_drewN ?_ _)) hbl)); clear hbl)
          exact HPO.out hi false _ (fun h => by cases h) (fun _ => HR.out) HB2.out
      · have i1 : ¬ (hi : Int) < (l.length : Int) := by omega
        have HR := hide (show ixOf l k = none by
          cases hx : ixOf l k with
          | none => rfl
          | some p =>
            obtain ⟨hp, hid⟩ := ixOf_some hx
            rw [idAt_get hp] at hid
            have h9 := HP.out p hp hid
            omega)
        clear HP
        go_wp2
        exact HPO.out hi false _ (fun h => by cases h) (fun _ => HR.out) HB.out

set_option maxHeartbeats 3200000 in
set_option maxRecDepth 100000 in
theorem index_any (l : List BK) (A : Option Addr) (c : Nat) (k : Int) (w : World) (hA : BsAt w A l) (I : Ids l) (hn : l.length ≤ 2000) (hk : -9223372036854775808 ≤ k ∧ k ≤ 9223372036854775807) :
    Calls Tryd.prog 40 #[.slice A l.length c, .int .i64 k] w fun e w' => e = .returned (.int .i64 (ixI l k)) ∧ Below w.heap.size w w' := by
  have HC := hide (fun W (hb : Below w.heap.size w W) => binS_any l A c k W (hA.below hb) I hn hk)
  have HT : Hid (∀ i : Nat, ixOf l k = some i → ixI l k = i) := hide fun i h => by unfold ixI; rw [h]
  have HF : Hid (ixOf l k = none → ixI l k = -1) := hide fun h => by unfold ixI; rw [h]
  clear hA I hn hk
  go_enter Tryd.func40, Tryd.ntmps40
  go_upto_region 2 with (go_at_call 54; (refine (HC.out _ (by repeat (first | with_reducible exact Below.refl _ _ | with_reducible refine bl_plus ?_ | with_reducible refine bl_alloc ?_ _ | with_reducible refine bl_drew ?_ | with_reducible refine bl_drewN ?_ _))).mono ?_); rintro e w' ⟨i, f, rfl, h1, h2, hbl⟩; have H1 := hide h1; have H2 := hide h2; have HB := hide (below_chainT (w := w) (by repeat (first | with_reducible exact Below.refl _ _ | with_reducible refine bl_plus ?_ | with_reducible refine bl_alloc ?_ _ | with_reducible refine bl_drew ?_ | with_reducible refine bl_drewN ?_ _)) hbl); clear h1 h2 hbl)
  cases f with
  | true =>
    have HR := hide (HT.out i (H1.out rfl))
    go_wp2
    go_ret
    rw [HR.out]
    exact ⟨rfl, HB.out⟩
  | false =>
    have HR := hide (HF.out (H2.out rfl))
    go_wp2
    go_ret
    rw [HR.out]
    exact ⟨rfl, HB.out⟩

end Go.Proofs.YtidpfjdlchffcaaDoor
