/-
  WALKS: slices.IndexFunc and DeleteFunc at text.Span (7 cells), any function, at rows that the call owns.
-/
import Derived.Test.YtioppoaijehicaaGreatDoorSpb
import Derived.Test.YtioppoaijehicaaGreatDoorOwnC
import Derived.Deep.DeepCutAuto
set_option linter.all false
namespace Go.Proofs.YtioppoaijehicaaGreatDoor
open Go.RowKit Go.Lib

theorem valsSp_len (x : Sp) : (Sp.vals x).length = 7 := rfl

/-- What IndexFunc says: the first place at which the function says yes, or -1. -/
def FstSp (d : (Sp) → Bool) (l : List (Sp)) (r : Int) : Prop := (∃ k : Nat, ∃ h : k < l.length, r = k ∧ d l[k] = true ∧ ∀ j (hj : j < l.length), j < k → d l[j] = false) ∨ (r = -1 ∧ ∀ j (hj : j < l.length), d l[j] = false)

def FstOutSp (d : (Sp) → Bool) (l : List (Sp)) (w : World) (e : Ending) (w' : World) : Prop := ∃ r : Int, e = .returned (.int .i64 r) ∧ FstSp d l r ∧ Below w.heap.size w w'

set_option maxHeartbeats 3200000 in
set_option maxRecDepth 100000 in
theorem indexSp_any (fid : FuncId) (gq : Nat) (d : (Sp) → Bool) (A : Option Addr) (c : Nat) (l : List (Sp)) (w : World) (hA : RdK Sp.vals 7 w A l) (hm : l.length ≤ 2000000) (ent : ∀ args w, (callFunc fid args).run Tryz.prog w = .ok (.enter fid args) w)
    (hF : ∀ x ∈ l, ∀ W, Below w.heap.size w W → Calls Tryz.prog fid #[.agg #[.int .i64 x.kind, .int .i64 x.fr, .int .i64 x.to, .string x.txt, .string x.sho, .int .i64 x.id, .bool x.strong], .pointer (some ⟨gq, 0, none⟩)] W fun e w' => e = .returned (.bool (d x)) ∧ Below W.heap.size W w') :
    Calls Tryz.prog 83 #[.slice A l.length c, .func (.func fid) #[] #[.pointer (some ⟨gq, 0, none⟩)]] w (FstOutSp d l w) := by
  have HPO := hide (show ∀ (r : Int) w', FstSp d l r → Below w.heap.size w w' → FstOutSp d l w (.returned (.int .i64 r)) w' from fun r w' h1 h2 => ⟨r, rfl, h1, h2⟩)
  generalize FstOutSp d l w = PO at *
  have HA := hide hA
  have HF := hide hF
  clear hA hF
  go_enter Tryz.func83, Tryz.ntmps83
  go_wp2
  go_loopw [8] (fun i wr => ∃ (k : Nat) (os : Array Obj) (n : Nat), k ≤ l.length ∧ i = .int .i64 k ∧ wr = plus w os n ∧ Hid (∀ j (h : j < l.length), j < k → d l[j] = false)) (fun i _ => l.length - (RowKit.intOf i).toNat)
  case atStart => exact ⟨0, #[], _, Nat.zero_le _, rfl, plus_nil.symm, hide (fun j h hj => by omega)⟩
  case round =>
    obtain ⟨k, os, n, hk, rfl, rfl, HN⟩ := hrel
    by_cases hlt : k < l.length
    · obtain ⟨b, o, rfl, hb, hv0⟩ := HA.out (by omega)
      have hv := hv0 k hlt
      have c0 := hv 0 (by decide)
      have c1 := hv 1 (by decide)
      have c2 := hv 2 (by decide)
      have c3 := hv 3 (by decide)
      have c4 := hv 4 (by decide)
      have c5 := hv 5 (by decide)
      have c6 := hv 6 (by decide)
      have HC := hide (fun W hbw => HF.out l[k] (List.getElem_mem hlt) W hbw)
      have HY := hide (fun (h : d l[k] = true) => (show FstSp d l k from .inl ⟨k, hlt, rfl, h, HN.out⟩))
      have HNX := hide (fun (h : d l[k] = false) j (hj : j < l.length) (hjk : j < k + 1) => (by
        rcases Nat.lt_or_ge j k with g | g
        · exact HN.out j hj g
        · obtain rfl : j = k := by omega
          exact h : d l[j] = false))
      have i1 : (k : Int) < (l.length : Int) := by omega
      clear hv hv0 HF HA HN
      generalize l[k] = x at *
      generalize d x = B at *
      obtain ⟨kd, fr, tt, tx, sh, id, st⟩ := x
      dsimp only [Sp.vals] at c0 c1 c2 c3 c4 c5 c6 HC
      simp only [List.getElem?_cons_zero, List.getElem?_cons_succ, Nat.add_zero] at c0 c1 c2 c3 c4 c5 c6
      cases B with
      | true =>
        have HR := hide (HY.out rfl)
        clear HNX HY
        go_wp2
        refine (HC.out _ ?hbw).mono ?_
        case hbw => exact (by repeat (first | with_reducible exact Below.refl _ _ | with_reducible refine bl_plus ?_ | with_reducible refine bl_alloc ?_ _ | with_reducible refine bl_drew ?_ | with_reducible refine bl_drewN ?_ _))
        rintro e w' ⟨rfl, hbl⟩
        obtain ⟨os1, n1, rfl⟩ := below_plus hbl
        clear hbl
        go_wp2
        exact HPO.out _ _ HR.out (by repeat (first | with_reducible exact Below.refl _ _ | with_reducible refine bl_plus ?_ | with_reducible refine bl_alloc ?_ _ | with_reducible refine bl_drew ?_ | with_reducible refine bl_drewN ?_ _))
      | false =>
        have HR := hide (HNX.out rfl)
        clear HNX HY
        go_wp2
        refine (HC.out _ ?hbw).mono ?_
        case hbw => exact (by repeat (first | with_reducible exact Below.refl _ _ | with_reducible refine bl_plus ?_ | with_reducible refine bl_alloc ?_ _ | with_reducible refine bl_drew ?_ | with_reducible refine bl_drewN ?_ _))
        rintro e w' ⟨rfl, hbl⟩
        obtain ⟨os1, n1, rfl⟩ := below_plus hbl
        clear hbl
        go_wp2
        go_roundw
        case rel => exact ⟨k + 1, _, _, hlt, by go_num, by first | rfl | (simp only [plus_alloc, plus_plus, plus_drew]; rfl), HR⟩
        case measure => simp [RowKit.intOf]; omega
    · obtain rfl : k = l.length := by omega
      have HR := hide (show FstSp d l (-1) from .inr ⟨rfl, fun j hj => HN.out j hj hj⟩)
      clear HF HA HN
      go_wp2
      exact HPO.out _ _ HR.out (by repeat (first | with_reducible exact Below.refl _ _ | with_reducible refine bl_plus ?_ | with_reducible refine bl_alloc ?_ _ | with_reducible refine bl_drew ?_ | with_reducible refine bl_drewN ?_ _))

/-- What DeleteFunc hands back. -/
def DelOutSp (base g c : Nat) (p : (Sp) → Bool) (l : List (Sp)) (w : World) (e : Ending) (w' : World) : Prop :=
  e = .returned (.slice (some ⟨g, 0, none⟩) (l.filter p).length c) ∧ OwnK 7 90 w' base (.slice (some ⟨g, 0, none⟩) (l.filter p).length c) (l.filter p).length (flatG Sp.vals (l.filter p)) ∧ w.grownBy w' (some g)

theorem setCellsSp (w : World) (g o : Nat) (a0 a1 a2 a3 a4 a5 a6 : Value) : w.setCells g o [a0, a1, a2, a3, a4, a5, a6] = (((((((w.setCell ⟨g, o, none⟩ a0).setCell ⟨g, o + 1, none⟩ a1).setCell ⟨g, o + 2, none⟩ a2).setCell ⟨g, o + 3, none⟩ a3).setCell ⟨g, o + 4, none⟩ a4).setCell ⟨g, o + 5, none⟩ a5).setCell ⟨g, o + 6, none⟩ a6) := rfl

set_option maxHeartbeats 6400000 in
set_option maxRecDepth 100000 in
theorem deleteSp_any (fid : FuncId) (gq : Nat) (p : (Sp) → Bool) (ws : World) (base gr c : Nat) (l : List (Sp)) (w : World) (hlen : l.length ≤ 2000000) (ent : ∀ args w, (callFunc fid args).run Tryz.prog w = .ok (.enter fid args) w)
    (hr : OwnK 7 90 w base (.slice (some ⟨gr, 0, none⟩) l.length c) l.length (flatG Sp.vals l)) (hws : Below ws.heap.size ws w) (hgr : ws.heap.size ≤ gr)
    (hF : ∀ x ∈ l, ∀ W, Below ws.heap.size ws W → Calls Tryz.prog fid #[.agg #[.int .i64 x.kind, .int .i64 x.fr, .int .i64 x.to, .string x.txt, .string x.sho, .int .i64 x.id, .bool x.strong], .pointer (some ⟨gq, 0, none⟩)] W fun e w' => e = .returned (.bool (!p x)) ∧ Below W.heap.size W w') :
    Calls Tryz.prog 84 #[.slice (some ⟨gr, 0, none⟩) l.length c, .func (.func fid) #[] #[.pointer (some ⟨gq, 0, none⟩)]] w (DelOutSp base gr c p l w) := by
  have hlt := (hr.lt gr rfl).2
  obtain ⟨_, _, hsl, hlc, hcm, _⟩ := hr.2
  injection hsl with hae _ hce
  subst hae hce
  unfold maxLen at hcm
  have hI := indexSp_any fid gq (fun x => !p x) (some ⟨gr, 0, none⟩) c l w (rdK_own valsSp_len (by decide) hr) hlen ent (fun x hx W hb => hF x hx W (hws.trans (hb.mono hws.size)))
  have hPO : ∀ (i : Nat) (w' : World), i = (l.filter p).length → OwnK 7 90 w' base (.slice (some ⟨gr, 0, none⟩) i c) i (flatG Sp.vals (l.filter p)) → w.grownBy w' (some gr) → DelOutSp base gr c p l w (.returned (.slice (some ⟨gr, 0, none⟩) i c)) w' := by
    rintro i w' rfl h1 h2
    exact ⟨rfl, h1, h2⟩
  have HPO := hide hPO
  generalize DelOutSp base gr c p l w = PO at *
  have HI := hide hI
  unfold FstOutSp at HI
  have HROW := hide hr
  have HWS := hide (fun (W : World) (h : w.grownBy W (some gr)) => (hws.grown h hws.size (fun k hk => by have := Option.some.inj hk; omega) : Below ws.heap.size ws W))
  have HFF := hide hF
  clear hPO hI hF hws hr
  go_enter Tryz.func84, Tryz.ntmps84
  go_upto_region 2 with (go_at_call 83; (with_reducible refine HI.out.mono ?_); rintro e w' ⟨r, rfl, hr, hbl⟩; have HBL := hide hbl; have HR := hide hr; clear hbl hr)
  rcases HR.out with ⟨q, hq, rfl, hpq, hall⟩ | ⟨rfl, hall⟩
  · have hst0 : DelK Sp.vals 7 90 base gr c p l w q (q + 1) w' := ((DelK.start HROW.out (fun k hk hkq => by have := hall k hk hkq; simpa using this)).below HBL.out).skip hq (by simpa using hpq)
    have HS1 := hide hst0
    have hq1 : ((q : Int) == -1) = false := by simp
    clear hst0 HI HBL hpq hall HR
    go_wp2
    go_loopw [5, 6] (fun is js wr => ∃ i j : Nat, i < j ∧ j ≤ l.length ∧ is = .int .i64 i ∧ js = .int .i64 j ∧ Hid (DelK Sp.vals 7 90 base gr c p l w i j wr)) (fun _ js _ => l.length - (RowKit.intOf js).toNat)
    case atStart => exact ⟨q, q + 1, by omega, by omega, by go_num, by go_num, HS1⟩
    case round =>
      clear HS1 hq1
      obtain ⟨i, j, hij, hj, rfl, rfl, HS⟩ := hrel
      by_cases hlt2 : j < l.length
      · have hv := fun m (hm : m < 7) => HS.out.cell valsSp_len hlt2 (Nat.le_refl _) hm
        have c0 := hv 0 (by decide)
        have c1 := hv 1 (by decide)
        have c2 := hv 2 (by decide)
        have c3 := hv 3 (by decide)
        have c4 := hv 4 (by decide)
        have c5 := hv 5 (by decide)
        have c6 := hv 6 (by decide)
        have HSK := hide (fun (W : World) (hS : DelK Sp.vals 7 90 base gr c p l w i j W) h => hS.skip hlt2 h)
        have HKP := hide (fun (W : World) (hS : DelK Sp.vals 7 90 base gr c p l w i j W) h => hS.keep valsSp_len hlt2 (Nat.le_of_lt hij) h)
        have HTH := hide (fun (W : World) (hS : DelK Sp.vals 7 90 base gr c p l w i j W) (k : Nat) (hk : k < 7) => hS.there valsSp_len (by decide) (k := i * 7 + k) (by omega))
        have HC := hide (fun (W : World) (hS : DelK Sp.vals 7 90 base gr c p l w i j W) => HFF.out l[j] (List.getElem_mem hlt2) W (HWS.out W hS.grown))
        have i1 : (j : Int) < (l.length : Int) := by omega
        have i2 : (i : Int) < (l.length : Int) := by omega
        have hgw : gr < wr.heap.size := Nat.lt_of_lt_of_le hlt HS.out.grown.size
        clear hv
        generalize l[j] = y at *
        generalize p y = B at *
        obtain ⟨kd, fr, tt, tx, sh, id, st⟩ := y
        dsimp only [Sp.vals] at c0 c1 c2 c3 c4 c5 c6 HSK HKP HC
        simp only [List.getElem?_cons_zero, List.getElem?_cons_succ, Nat.add_zero] at c0 c1 c2 c3 c4 c5 c6
        cases B with
        | false =>
          have HC1 := hide (fun W hS => HC.out W hS)
          simp only [Bool.not_false] at HC1
          clear HKP HTH HC
          go_wp2
          refine (HC1.out _ ?hbw).mono ?_
          case hbw => exact HS.out.below (by repeat (first | with_reducible exact Below.refl _ _ | with_reducible refine bl_plus ?_ | with_reducible refine bl_alloc ?_ _ | with_reducible refine bl_drew ?_ | with_reducible refine bl_drewN ?_ _))
          rintro e w' ⟨rfl, hbl⟩
          have HS2 := hide (HSK.out _ ((HS.out.below (by repeat (first | with_reducible exact Below.refl _ _ | with_reducible refine bl_plus ?_ | with_reducible refine bl_alloc ?_ _ | with_reducible refine bl_drew ?_ | with_reducible refine bl_drewN ?_ _))).below hbl) (by first | rfl | trivial))
          clear hbl
          go_wp2
          go_roundw
          case rel => exact ⟨i, j + 1, by omega, hlt2, rfl, by go_num, HS2⟩
          case measure => simp [RowKit.intOf]; omega
        | true =>
          have HC1 := hide (fun W hS => HC.out W hS)
          simp only [Bool.not_true] at HC1
          obtain ⟨u0, s0⟩ := Option.isSome_iff_exists.1 (HTH.out wr HS.out 0 (by decide)).1
          obtain ⟨u1, s1⟩ := Option.isSome_iff_exists.1 (HTH.out wr HS.out 1 (by decide)).1
          obtain ⟨u2, s2⟩ := Option.isSome_iff_exists.1 (HTH.out wr HS.out 2 (by decide)).1
          obtain ⟨u3, s3⟩ := Option.isSome_iff_exists.1 (HTH.out wr HS.out 3 (by decide)).1
          obtain ⟨u4, s4⟩ := Option.isSome_iff_exists.1 (HTH.out wr HS.out 4 (by decide)).1
          obtain ⟨u5, s5⟩ := Option.isSome_iff_exists.1 (HTH.out wr HS.out 5 (by decide)).1
          obtain ⟨u6, s6⟩ := Option.isSome_iff_exists.1 (HTH.out wr HS.out 6 (by decide)).1
          have f0 := (HTH.out wr HS.out 0 (by decide)).2
          have f1 := (HTH.out wr HS.out 1 (by decide)).2
          have f2 := (HTH.out wr HS.out 2 (by decide)).2
          have f3 := (HTH.out wr HS.out 3 (by decide)).2
          have f4 := (HTH.out wr HS.out 4 (by decide)).2
          have f5 := (HTH.out wr HS.out 5 (by decide)).2
          have f6 := (HTH.out wr HS.out 6 (by decide)).2
          simp only [Nat.add_zero] at s0 f0
          have hkp := HKP.out wr HS.out (by first | rfl | trivial)
          rw [setCellsSp] at hkp
          have HKK := hide hkp
          clear HSK HC HTH HKP hkp
          go_wp2
          refine (HC1.out _ ?hbw).mono ?_
          case hbw => exact HS.out.below (by repeat (first | with_reducible exact Below.refl _ _ | with_reducible refine bl_plus ?_ | with_reducible refine bl_alloc ?_ _ | with_reducible refine bl_drew ?_ | with_reducible refine bl_drewN ?_ _))
          rintro e w' ⟨rfl, hbl⟩
          obtain ⟨os1, n1, rfl⟩ := below_plus hbl
          clear hbl
          go_wp2
          go_roundw
          case rel => exact ⟨i + 1, j + 1, by omega, hlt2, by go_num, by go_num, hide (HKK.out.below (by repeat (first | with_reducible exact Below.refl _ _ | with_reducible refine bl_plus ?_ | with_reducible refine bl_alloc ?_ _ | with_reducible refine bl_drew ?_ | with_reducible refine bl_drewN ?_ _)))⟩
          case measure => simp [RowKit.intOf]; omega
      · have hjl : j = l.length := by omega
        subst hjl
        obtain ⟨vs, hvl, hcl⟩ := run_clear_k (K := 7) (st := 88) (t := 90) (zs := [.int .i64 0, .int .i64 0, .int .i64 0, .string ByteArray.empty, .string ByteArray.empty, .int .i64 0, .bool false]) Tryz.underlying88 Tryz.zeroValue90 rfl (by decide) (by intro v hv; simp only [List.mem_cons, List.not_mem_nil, or_false] at hv; rcases hv with rfl | rfl | rfl | rfl | rfl | rfl | rfl <;> rfl) wr gr (i * 7) (l.length - i) (c - i) (by omega) (fun k hk => (HS.out.there valsSp_len (by decide) (k := i * 7 + k) (by omega)).1) (fun k hk => (HS.out.there valsSp_len (by decide) (k := i * 7 + k) (by omega)).2)
        have hov := HS.out.over valsSp_len (by omega) vs hvl
        have HFIN := hide (HPO.out i _ hov.2.2 hov.1 hov.2.1)
        have i1 : (i : Int) ≤ (l.length : Int) := by omega
        have i2 : (l.length : Int) ≤ (c : Int) := by omega
        clear hov HS HROW HPO HFF HWS hvl
        go_wp2
        exact HFIN.out
  · have hfl : l.filter p = l := by
      rw [List.filter_eq_self]
      intro x hx
      obtain ⟨k, hk, rfl⟩ := List.mem_iff_getElem.1 hx
      have := hall k hk
      simpa using this
    have HFIN := hide (fun (W : World) (hb : Below w.heap.size w W) => HPO.out l.length W (by rw [hfl]) (by rw [hfl]; exact ownK_below HROW.out hb) (Go.Lib.grownBy_below ⟨rfl, rfl, rfl, Nat.le_refl _, fun _ _ _ => rfl⟩ hb))
    clear hfl hall HR HI HPO HROW HFF HWS
    go_wp2
    exact HFIN.out _ HBL.out

/-- .. at a row of no elements. -/
theorem deleteSp_none (fid : FuncId) (gq : Nat) (w : World) (ent : ∀ args w, (callFunc fid args).run Tryz.prog w = .ok (.enter fid args) w) :
    Calls Tryz.prog 84 #[.slice none 0 0, .func (.func fid) #[] #[.pointer (some ⟨gq, 0, none⟩)]] w fun e w' => e = .returned (.slice none 0 0) ∧ Below w.heap.size w w' := by
  have hI := indexSp_any fid gq (fun _ => true) none 0 [] w rdK_none (Nat.zero_le _) ent (fun x hx => by cases hx)
  simp only [List.length_nil] at hI
  have HI := hide hI
  unfold FstOutSp at HI
  have HPO : Hid (∀ w', Below w.heap.size w w' → (fun (e : Ending) (w' : World) => e = .returned (.slice none 0 0) ∧ Below w.heap.size w w') (.returned (.slice none 0 0)) w') := hide fun w' h2 => ⟨rfl, h2⟩
  generalize (fun (e : Ending) (w' : World) => e = .returned (.slice none 0 0) ∧ Below w.heap.size w w') = PO at *
  clear hI
  go_enter Tryz.func84, Tryz.ntmps84
  go_upto_region 2 with (go_at_call 83; (with_reducible refine HI.out.mono ?_); rintro e w' ⟨r, rfl, hr, hbl⟩; have HBL := hide hbl; have HR := hide hr; clear hbl hr)
  rcases HR.out with ⟨q, hq, -⟩ | ⟨rfl, -⟩
  · exact absurd hq (Nat.not_lt_zero _)
  · clear HR HI
    go_wp2
    exact HPO.out _ HBL.out

/-- .. at any row that the call owns. -/
theorem delSp_row (fid : FuncId) (gq : Nat) (p : (Sp) → Bool) (ws : World) (base c : Nat) (A : Option Addr) (l : List (Sp)) (w : World) (hlen : l.length ≤ 2000000) (ent : ∀ args w, (callFunc fid args).run Tryz.prog w = .ok (.enter fid args) w)
    (hr : OwnK 7 90 w base (.slice A l.length c) l.length (flatG Sp.vals l)) (hws : Below ws.heap.size ws w) (hgr : ws.heap.size ≤ base)
    (hF : ∀ x ∈ l, ∀ W, Below ws.heap.size ws W → Calls Tryz.prog fid #[.agg #[.int .i64 x.kind, .int .i64 x.fr, .int .i64 x.to, .string x.txt, .string x.sho, .int .i64 x.id, .bool x.strong], .pointer (some ⟨gq, 0, none⟩)] W fun e w' => e = .returned (.bool (!p x)) ∧ Below W.heap.size W w') :
    Calls Tryz.prog 84 #[.slice A l.length c, .func (.func fid) #[] #[.pointer (some ⟨gq, 0, none⟩)]] w fun e w' =>
      e = .returned (.slice A (l.filter p).length c) ∧ OwnK 7 90 w' base (.slice A (l.filter p).length c) (l.filter p).length (flatG Sp.vals (l.filter p)) ∧ w.grownBy w' (Value.slice A l.length c).ownBlock := by
  have h9 := hr
  obtain ⟨hl, A', c', hv, h1, h2, h3⟩ := hr
  injection hv with e1 _ e3
  subst e1 e3
  rcases h3 with ⟨rfl, h4, rfl⟩ | ⟨g, cur, rfl, hg, hb, h4, h5⟩
  · obtain rfl := List.length_eq_zero_iff.1 h4
    refine (deleteSp_none fid gq w ent).mono ?_
    rintro e w' ⟨rfl, hb⟩
    exact ⟨rfl, OwnK.empty, Go.Lib.grownBy_below ⟨rfl, rfl, rfl, Nat.le_refl _, fun _ _ _ => rfl⟩ hb⟩
  · refine (deleteSp_any fid gq p ws base g c l w hlen ent h9 hws (Nat.le_trans hgr hg) hF).mono ?_
    rintro e w' ⟨rfl, ho, hgb⟩
    exact ⟨rfl, ho, hgb⟩

end Go.Proofs.YtioppoaijehicaaGreatDoor
