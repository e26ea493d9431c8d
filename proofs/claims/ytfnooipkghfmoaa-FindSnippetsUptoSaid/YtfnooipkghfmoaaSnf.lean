/-
  WALKS: does a word have a part? does a query ask for a word? the program's and the reference's.
-/
import Derived.Test.YtfnooipkghfmoaaSne
import Derived.Test.YtfnooipkghfmoaaDistE
set_option linter.all false
namespace Go.Proofs.Ytfnooipkghfmoaa
open Go.RowKit Go.Lib

def prefB (x y : ByteArray) : Bool := decide (y.size ≤ x.size) && ((x.extract 0 y.size).toList == y.toList)
/-- Does a word x have a part of a kind with one word y? -/
def hasB (k : Int) (y x : ByteArray) : Bool := if k = 1 then prefB x y else if k = 2 then (distR y x (slackR y.size)).2 else x.toList == y.toList
theorem hasB_cases (k : Int) (y x : ByteArray) : (k = 1 ∧ hasB k y x = prefB x y) ∨ (k = 2 ∧ hasB k y x = (distR y x (slackR y.size)).2) ∨ (k ≠ 1 ∧ k ≠ 2 ∧ hasB k y x = (x.toList == y.toList)) := by
  unfold hasB
  by_cases h1 : k = 1
  · exact .inl ⟨h1, if_pos h1⟩
  · rw [if_neg h1]
    by_cases h2 : k = 2
    · exact .inr (.inl ⟨h2, if_pos h2⟩)
    · exact .inr (.inr ⟨h1, h2, if_neg h2⟩)

set_option maxHeartbeats 800000 in
theorem hasPrefixL_any (x y : ByteArray) (w : World) (hx : x.size ≤ 2000000) (hy : y.size ≤ 2000000) : Calls Try.prog 104 #[.string x, .string y] w (BOut (prefB x y) w) := by
  unfold BOut prefB
  by_cases h : y.size ≤ x.size
  · rw [decide_eq_true h, Bool.true_and]
    have i1 : (y.size : Int) ≤ (x.size : Int) := by omega
    go_enter Try.func104, Try.ntmps104
    go_wp2
    go_ret
    exact ⟨rfl, (by repeat (first | with_reducible exact Below.refl _ _ | with_reducible refine bl_plus ?_ | with_reducible refine bl_alloc ?_ _ | with_reducible refine bl_drew ?_ | with_reducible refine bl_drewN ?_ _))⟩
  · rw [decide_eq_false h, Bool.false_and]
    have i1 : ¬ (y.size : Int) ≤ (x.size : Int) := by omega
    go_enter Try.func104, Try.ntmps104
    go_wp2
    go_ret
    exact ⟨rfl, (by repeat (first | with_reducible exact Below.refl _ _ | with_reducible refine bl_plus ?_ | with_reducible refine bl_alloc ?_ _ | with_reducible refine bl_drew ?_ | with_reducible refine bl_drewN ?_ _))⟩
set_option maxHeartbeats 800000 in
theorem hasPrefix_any (x y : ByteArray) (w : World) (hx : x.size ≤ 2000000) (hy : y.size ≤ 2000000) : Calls Try.prog 72 #[.string x, .string y] w (BOut (prefB x y) w) := by
  have HP := hide (fun w => hasPrefixL_any x y w hx hy)
  unfold BOut at HP ⊢
  generalize prefB x y = R at *
  go_enter Try.func72, Try.ntmps72
  go_wp2_with (go_at_call 104; refine (HP.out _).mono ?_; rintro e w' ⟨rfl, hbl⟩; obtain ⟨os1, n1, rfl⟩ := below_plus hbl; clear hbl)
  go_ret
  exact ⟨rfl, (by repeat (first | with_reducible exact Below.refl _ _ | with_reducible refine bl_plus ?_ | with_reducible refine bl_alloc ?_ _ | with_reducible refine bl_drew ?_ | with_reducible refine bl_drewN ?_ _))⟩

set_option maxHeartbeats 1600000 in
theorem has_any (k : Int) (y x : ByteArray) (w : World) (hy : y.size ≤ 2000000) (hx : x.size ≤ 2000000) :
    Calls Try.prog 68 #[.string x, .int .i64 k, .string y] w (BOut (hasB k y x) w) := by
  have HP := hide (fun w => hasPrefix_any x y w hx hy)
  have HN := hide (fun w => near_any y x w hy hx)
  unfold BOut at HP HN ⊢
  rcases hasB_cases k y x with ⟨rfl, hR⟩ | ⟨rfl, hR⟩ | ⟨h1, h2, hR⟩
  all_goals rw [hR]
  all_goals clear hR hx hy
  · generalize prefB x y = R at *
    clear HN
    go_enter Try.func68, Try.ntmps68
    go_wp2_with (go_at_call 72; refine (HP.out _).mono ?_; rintro e w' ⟨rfl, hbl⟩; obtain ⟨os1, n1, rfl⟩ := below_plus hbl; clear hbl)
    go_ret
    exact ⟨rfl, (by repeat (first | with_reducible exact Below.refl _ _ | with_reducible refine bl_plus ?_ | with_reducible refine bl_alloc ?_ _ | with_reducible refine bl_drew ?_ | with_reducible refine bl_drewN ?_ _))⟩
  · generalize (distR y x (slackR y.size)).2 = R at *
    clear HP
    go_enter Try.func68, Try.ntmps68
    go_wp2_with (go_at_call 100; refine (HN.out _).mono ?_; rintro e w' ⟨rfl, hbl⟩; obtain ⟨os1, n1, rfl⟩ := below_plus hbl; clear hbl)
    go_ret
    exact ⟨rfl, (by repeat (first | with_reducible exact Below.refl _ _ | with_reducible refine bl_plus ?_ | with_reducible refine bl_alloc ?_ _ | with_reducible refine bl_drew ?_ | with_reducible refine bl_drewN ?_ _))⟩
  · have i1 : (k == 1) = false := beq_eq_false_iff_ne.2 h1
    have i2 : (k == 2) = false := beq_eq_false_iff_ne.2 h2
    clear HP HN h1 h2
    go_enter Try.func68, Try.ntmps68
    go_wp2
    go_ret
    exact ⟨rfl, (by repeat (first | with_reducible exact Below.refl _ _ | with_reducible refine bl_plus ?_ | with_reducible refine bl_alloc ?_ _ | with_reducible refine bl_drew ?_ | with_reducible refine bl_drewN ?_ _))⟩

set_option maxHeartbeats 1600000 in
theorem hasPart_any (k : Int) (y x : ByteArray) (w : World) (hy : y.size ≤ 2000000) (hx : x.size ≤ 2000000) :
    Calls Try.prog 23 #[.int .i64 k, .string y, .string x] w (BOut (hasB k y x) w) := by
  have HP := hide (fun w => hasPrefix_any x y w hx hy)
  have HN := hide (fun w => nearOf_any y x w hy hx)
  unfold BOut at HP HN ⊢
  rcases hasB_cases k y x with ⟨rfl, hR⟩ | ⟨rfl, hR⟩ | ⟨h1, h2, hR⟩
  all_goals rw [hR]
  all_goals clear hR hx hy
  · generalize prefB x y = R at *
    clear HN
    go_enter Try.func23, Try.ntmps23
    go_wp2_with (go_at_call 72; refine (HP.out _).mono ?_; rintro e w' ⟨rfl, hbl⟩; obtain ⟨os1, n1, rfl⟩ := below_plus hbl; clear hbl)
    go_ret
    exact ⟨rfl, (by repeat (first | with_reducible exact Below.refl _ _ | with_reducible refine bl_plus ?_ | with_reducible refine bl_alloc ?_ _ | with_reducible refine bl_drew ?_ | with_reducible refine bl_drewN ?_ _))⟩
  · generalize (distR y x (slackR y.size)).2 = R at *
    clear HP
    go_enter Try.func23, Try.ntmps23
    go_wp2_with (go_at_call 55; refine (HN.out _).mono ?_; rintro e w' ⟨rfl, hbl⟩; obtain ⟨os1, n1, rfl⟩ := below_plus hbl; clear hbl)
    go_ret
    exact ⟨rfl, (by repeat (first | with_reducible exact Below.refl _ _ | with_reducible refine bl_plus ?_ | with_reducible refine bl_alloc ?_ _ | with_reducible refine bl_drew ?_ | with_reducible refine bl_drewN ?_ _))⟩
  · have i1 : (k == 1) = false := beq_eq_false_iff_ne.2 h1
    have i2 : (k == 2) = false := beq_eq_false_iff_ne.2 h2
    clear HP HN h1 h2
    go_enter Try.func23, Try.ntmps23
    go_wp2
    go_ret
    exact ⟨rfl, (by repeat (first | with_reducible exact Below.refl _ _ | with_reducible refine bl_plus ?_ | with_reducible refine bl_alloc ?_ _ | with_reducible refine bl_drew ?_ | with_reducible refine bl_drewN ?_ _))⟩

def kindOf (k : Int) : Int := if k = 3 then 0 else k
/-- Does a query ask for a word? -/
def partB (p : Pq) (x : ByteArray) : Bool := p.ws.any (fun y => hasB (kindOf p.k) y x)
def clauB (c : Cq) (x : ByteArray) : Bool := !c.neg && c.ps.any (fun p => partB p x)
def wantB (cs : List Cq) (x : ByteArray) : Bool := cs.any (fun c => clauB c x)
theorem plus_two {L : World} {os os' : Array Obj} {n n' : Nat} {o1 o2 : Obj} : plus (((plus L os n).alloc o1).alloc o2) os' n' = plus L ((os.push o1).push o2 ++ os') n' := by rw [plus_alloc, plus_alloc, plus_plus]
theorem plus_one {L : World} {os os' : Array Obj} {n n' : Nat} {o1 : Obj} : plus ((plus L os n).alloc o1) os' n' = plus L (os.push o1 ++ os') n' := by rw [plus_alloc, plus_plus]
theorem any_at {α : Type} {l : List α} {f : α → Bool} {j : Nat} (h : j < l.length) (hf : f l[j] = true) : l.any f = true := List.any_eq_true.2 ⟨_, List.getElem_mem h, hf⟩
theorem any_none {α : Type} {l : List α} {f : α → Bool} (h : ∀ j (hj : j < l.length), f l[j] = false) : l.any f = false := by
  rw [List.any_eq_false]
  intro x hx
  obtain ⟨j, hj, rfl⟩ := List.mem_iff_getElem.1 hx
  rw [h j hj]
  decide
/-- What a right query's words are. -/
def SmallQ (cs : List Cq) : Prop := ∀ c ∈ cs, ∀ p ∈ c.ps, 0 ≤ p.k ∧ p.k ≤ 3 ∧ ∀ y ∈ p.ws, y.size ≤ 30
theorem smallQ_of {cs : List Cq} (h : qErr cs = 0) : SmallQ cs := fun c hc p hp => by
  have h1 := (qErr_parts h).2 c hc
  obtain ⟨k0, k3, _, _, hw⟩ := Pq.of_ok (h1.2 p hp)
  exact ⟨k0, k3, fun y hy => isWordS_size (hw y hy)⟩

set_option maxHeartbeats 1600000 in
theorem wanted1_any (K : Int) (y x : ByteArray) (g1 g2 : Nat) (w : World) (hy : y.size ≤ 30) (hx : x.size ≤ 30) (h1 : w.cell? ⟨g1, 0, none⟩ = some (.string x)) (h2 : w.cell? ⟨g2, 0, none⟩ = some (.int .i64 K)) :
    Calls Try.prog 67 #[.string y, .pointer (some ⟨g1, 0, none⟩), .pointer (some ⟨g2, 0, none⟩)] w fun e w' => e = .returned (.bool (hasB K y x)) ∧ Below w.heap.size w w' := by
  have HH := hide (fun w => has_any K y x w (by omega) (by omega))
  unfold BOut at HH
  generalize hasB K y x = R at *
  clear hx hy
  go_enter Try.func67, Try.ntmps67
  go_wp2_with (go_at_call 68; refine (HH.out _).mono ?_; rintro e w' ⟨rfl, hbl⟩; obtain ⟨os1, n1, rfl⟩ := below_plus hbl; clear hbl)
  go_ret
  exact ⟨rfl, (by repeat (first | with_reducible exact Below.refl _ _ | with_reducible refine bl_plus ?_ | with_reducible refine bl_alloc ?_ _ | with_reducible refine bl_drew ?_ | with_reducible refine bl_drewN ?_ _))⟩

set_option maxHeartbeats 6400000 in
set_option maxRecDepth 100000 in
theorem wanted_any (cs : List Cq) (A : Option Addr) (c : Nat) (x : ByteArray) (w : World) (hA : CqsAt w A cs) (hs : SmallQ cs) (hx : x.size ≤ 30) :
    Calls Try.prog 17 #[.agg #[.slice A cs.length c], .string x] w (BOut (wantB cs x) w) := by
  have hm := hA.1
  unfold maxLen at hm
  have HPO := hide (show ∀ (r : Bool) w', wantB cs x = r → Below w.heap.size w w' → BOut (wantB cs x) w (.returned (.bool r)) w' by rintro r w' rfl h; exact ⟨rfl, h⟩)
  have HY := hide (fun k (hk : k < cs.length) (h : clauB cs[k] x = true) => (show wantB cs x = true from any_at hk h))
  have HN := hide (fun (h : ∀ k (hk : k < cs.length), clauB cs[k] x = false) => (show wantB cs x = false from any_none h))
  generalize BOut (wantB cs x) w = PO at *
  generalize wantB cs x = R at *
  have HA := hide hA
  have HS := hide hs
  clear hA hs
  go_enter Try.func17, Try.ntmps17
  go_wp2
  go_loopw [13] (fun i wr => ∃ (k : Nat) (os : Array Obj) (n : Nat), k ≤ cs.length ∧ i = .int .i64 k ∧ wr = plus ((w.alloc (.cells #[.slice A cs.length c] 24)).alloc (.cells #[.string x] 9)) os n ∧ Hid (∀ j (h : j < cs.length), j < k → clauB cs[j] x = false)) (fun i _ => cs.length - (RowKit.intOf i).toNat)
  case atStart => exact ⟨0, #[], _, Nat.zero_le _, rfl, plus_nil.symm, hide (fun j h hj => by omega)⟩
  case round =>
    obtain ⟨k, os, n, hk, rfl, rfl, HK⟩ := hrel
    by_cases hlt : k < cs.length
    · clear HN
      obtain ⟨b, o, rfl, hb, hv⟩ := HA.out.2 (by omega)
      obtain ⟨c0, A2, cap, c1', hP⟩ := hv k hlt
      have HYK := hide (HY.out k hlt)
      have HNX := hide (fun (h : clauB cs[k] x = false) j (hj : j < cs.length) (hjk : j < k + 1) => (by
        rcases Nat.lt_or_ge j k with g | g
        · exact HK.out j hj g
        · obtain rfl : j = k := by omega
          exact h : clauB cs[j] x = false))
      have HSK := hide (HS.out cs[k] (List.getElem_mem hlt))
      clear hv HY HK HA HS
      generalize cs[k] = cl at *
      obtain ⟨neg, ps⟩ := cl
      simp only at c0 c1' hP HSK
      cases neg with
      | true =>
        have HR := hide (HNX.out rfl)
        clear HNX HYK HSK hP
        go_wp2
        go_roundw
        case rel => exact ⟨k + 1, _, _, hlt, by go_num, by first | rfl | (simp only [plus_alloc, plus_plus, pl_drewN, plus_drew]; rfl), HR⟩
        case measure => simp [RowKit.intOf]; omega
      | false =>
        have HCY := hide (fun q (hq : q < ps.length) (h : partB ps[q] x = true) => HYK.out (by unfold clauB; rw [Bool.not_false, Bool.true_and]; exact any_at hq h))
        have HCN := hide (fun (h : ∀ q (hq : q < ps.length), partB ps[q] x = false) => HNX.out (by unfold clauB; rw [Bool.not_false, Bool.true_and]; exact any_none h))
        have hpm := hP.1
        unfold maxLen at hpm
        have HP := hide hP
        clear HYK HNX hP
        go_wp2
        go_loopw [22] (fun i wr => ∃ (q : Nat) (os2 : Array Obj) (n2 : Nat), q ≤ ps.length ∧ i = .int .i64 q ∧ wr = plus ((plus ((w.alloc (.cells #[.slice (some ⟨b, o, none⟩) cs.length c] 24)).alloc (.cells #[.string x] 9)) os n).alloc (.cells #[.bool false, .slice A2 ps.length cap] 61)) os2 n2 ∧ Hid (∀ j (h : j < ps.length), j < q → partB ps[j] x = false)) (fun i _ => ps.length - (RowKit.intOf i).toNat)
        case atStart => exact ⟨0, #[], _, Nat.zero_le _, rfl, plus_nil.symm, hide (fun j h hj => by omega)⟩
        case round =>
          obtain ⟨q, os2, n2, hq, rfl, rfl, HK2⟩ := hrel
          by_cases hlt2 : q < ps.length
          · obtain ⟨b2, o2, rfl, hb2, hv2⟩ := HP.out.2 (by omega)
            obtain ⟨d0, A4, c4, d1, hwc, hW⟩ := hv2 q hlt2
            have HYQ := hide (HCY.out q hlt2)
            have HNQ := hide (fun (h : partB ps[q] x = false) j (hj : j < ps.length) (hjk : j < q + 1) => (by
              rcases Nat.lt_or_ge j q with g | g
              · exact HK2.out j hj g
              · obtain rfl : j = q := by omega
                exact h : partB ps[j] x = false))
            have HSQ := HSK.out ps[q] (List.getElem_mem hlt2)
            clear hv2 HCY HCN HK2 HP HSK
            generalize ps[q] = p at *
            obtain ⟨pk, pw⟩ := p
            simp only at d0 d1 hwc hW HSQ
            unfold partB at HYQ HNQ
            simp only at HYQ HNQ
            have HCF := hide (fun (g1 g2 : Nat) W (hbw : Below w.heap.size w W) (h1 : W.cell? ⟨g1, 0, none⟩ = some (.string x)) (h2 : W.cell? ⟨g2, 0, none⟩ = some (.int .i64 (kindOf pk))) (l1 : g1 < W.heap.size) (l2 : g2 < W.heap.size) =>
              containsFn_any 67 #[.pointer (some ⟨g1, 0, none⟩), .pointer (some ⟨g2, 0, none⟩)] (fun y => hasB (kindOf pk) y x) A4 c4 pw W (hW.below hbw) (fun args w => Go.Proofs.enters_of Try.func67 (by kernel_rfl) rfl args w)
                (fun y hy W' hb' => wanted1_any (kindOf pk) y x g1 g2 W' (HSQ.2.2 y hy) hx ((hb'.cell (p := ⟨g1, 0, none⟩) l1).trans h1) ((hb'.cell (p := ⟨g2, 0, none⟩) l2).trans h2)))
            have hkk : (pk = 3 ∧ kindOf pk = 0) ∨ (pk ≠ 3 ∧ kindOf pk = pk) := by
              unfold kindOf
              by_cases h3 : pk = 3
              · exact .inl ⟨h3, if_pos h3⟩
              · exact .inr ⟨h3, if_neg h3⟩
            clear hW HSQ
            generalize pw.any (fun y => hasB (kindOf pk) y x) = B at *
            rcases hkk with ⟨rfl, hke⟩ | ⟨h3, hke⟩
            · rw [hke] at HCF
              clear hke
              cases B with
              | true =>
                have HR := hide (HYQ.out rfl)
                clear HYQ HNQ
                go_wp2_with (go_at_call 66; refine (HCF.out _ _ _ ?hbw ?h1 ?h2 ?l1 ?l2).mono ?_; (case hbw => exact (by repeat (first | with_reducible exact Below.refl _ _ | with_reducible refine bl_plus ?_ | with_reducible refine bl_alloc ?_ _ | with_reducible refine bl_drew ?_ | with_reducible refine bl_drewN ?_ _))); (case h1 => go_simp); (case h2 => go_simp); (case l1 => simp only [World.size_alloc, plus_size, World.drew]; omega); (case l2 => simp only [World.size_alloc, plus_size, World.size_setCell, World.drew]; omega); rintro e w' ⟨rfl, hbl⟩; obtain ⟨os5, n5, rfl⟩ := below_plus hbl; clear hbl)
                exact HPO.out _ _ HR.out (by repeat (first | with_reducible exact Below.refl _ _ | with_reducible refine bl_plus ?_ | with_reducible refine bl_alloc ?_ _ | with_reducible refine bl_drew ?_ | with_reducible refine bl_drewN ?_ _))
              | false =>
                have HR := hide (HNQ.out rfl)
                clear HYQ HNQ
                go_wp2_with (go_at_call 66; refine (HCF.out _ _ _ ?hbw ?h1 ?h2 ?l1 ?l2).mono ?_; (case hbw => exact (by repeat (first | with_reducible exact Below.refl _ _ | with_reducible refine bl_plus ?_ | with_reducible refine bl_alloc ?_ _ | with_reducible refine bl_drew ?_ | with_reducible refine bl_drewN ?_ _))); (case h1 => go_simp); (case h2 => go_simp); (case l1 => simp only [World.size_alloc, plus_size, World.drew]; omega); (case l2 => simp only [World.size_alloc, plus_size, World.size_setCell, World.drew]; omega); rintro e w' ⟨rfl, hbl⟩; obtain ⟨os5, n5, rfl⟩ := below_plus hbl; clear hbl)
                go_roundw
                case rel => exact ⟨q + 1, _, _, hlt2, by go_num, plus_two, HR⟩
                case measure => simp [RowKit.intOf]; omega
            · rw [hke] at HCF
              have i3 : (pk == 3) = false := beq_eq_false_iff_ne.2 h3
              clear hke h3
              cases B with
              | true =>
                have HR := hide (HYQ.out rfl)
                clear HYQ HNQ
                go_wp2_with (go_at_call 66; refine (HCF.out _ _ _ ?hbw ?h1 ?h2 ?l1 ?l2).mono ?_; (case hbw => exact (by repeat (first | with_reducible exact Below.refl _ _ | with_reducible refine bl_plus ?_ | with_reducible refine bl_alloc ?_ _ | with_reducible refine bl_drew ?_ | with_reducible refine bl_drewN ?_ _))); (case h1 => go_simp); (case h2 => go_simp); (case l1 => simp only [World.size_alloc, plus_size, World.drew]; omega); (case l2 => simp only [World.size_alloc, plus_size, World.size_setCell, World.drew]; omega); rintro e w' ⟨rfl, hbl⟩; obtain ⟨os5, n5, rfl⟩ := below_plus hbl; clear hbl)
                exact HPO.out _ _ HR.out (by repeat (first | with_reducible exact Below.refl _ _ | with_reducible refine bl_plus ?_ | with_reducible refine bl_alloc ?_ _ | with_reducible refine bl_drew ?_ | with_reducible refine bl_drewN ?_ _))
              | false =>
                have HR := hide (HNQ.out rfl)
                clear HYQ HNQ
                go_wp2_with (go_at_call 66; refine (HCF.out _ _ _ ?hbw ?h1 ?h2 ?l1 ?l2).mono ?_; (case hbw => exact (by repeat (first | with_reducible exact Below.refl _ _ | with_reducible refine bl_plus ?_ | with_reducible refine bl_alloc ?_ _ | with_reducible refine bl_drew ?_ | with_reducible refine bl_drewN ?_ _))); (case h1 => go_simp); (case h2 => go_simp); (case l1 => simp only [World.size_alloc, plus_size, World.drew]; omega); (case l2 => simp only [World.size_alloc, plus_size, World.size_setCell, World.drew]; omega); rintro e w' ⟨rfl, hbl⟩; obtain ⟨os5, n5, rfl⟩ := below_plus hbl; clear hbl)
                go_roundw
                case rel => exact ⟨q + 1, _, _, hlt2, by go_num, plus_two, HR⟩
                case measure => simp [RowKit.intOf]; omega
          · obtain rfl : q = ps.length := by omega
            have HR := hide (HCN.out (fun j hj => HK2.out j hj hj))
            clear HCY HCN HK2 HP HSK hlt2
            go_wp2
            go_roundw
            case rel => exact ⟨k + 1, _, _, hlt, by go_num, by first | rfl | (simp only [plus_alloc, plus_plus, pl_drewN, plus_drew]; rfl), HR⟩
            case measure => simp [RowKit.intOf]; omega
    · obtain rfl : k = cs.length := by omega
      have HR := hide (HN.out (fun j hj => HK.out j hj hj))
      clear HN HY HK HA HS hlt
      go_wp2
      exact HPO.out _ _ HR.out (by repeat (first | with_reducible exact Below.refl _ _ | with_reducible refine bl_plus ?_ | with_reducible refine bl_alloc ?_ _ | with_reducible refine bl_drew ?_ | with_reducible refine bl_drewN ?_ _))

end Go.Proofs.Ytfnooipkghfmoaa
