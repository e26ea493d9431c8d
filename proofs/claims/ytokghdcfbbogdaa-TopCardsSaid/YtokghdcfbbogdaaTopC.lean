/-
  WALKS: TopCards.
-/
import Derived.Test.YtokghdcfbbogdaaTopB
import Derived.Deep.RegionHeld3
import Derived.BigRegion
namespace Go.Proofs.Ytokghdcfbbogdaa
open Go.RowKit

theorem run_eql_st9 (a0 a1 a2 a3 a4 a5 a6 a7 a8 : Int) (w : World) : (binOp .eql 24 (.agg #[.int .i64 a0, .int .i64 a1, .int .i64 a2, .int .i64 a3, .int .i64 a4, .int .i64 a5, .int .i64 a6, .int .i64 a7, .int .i64 a8]) (.agg #[.int .i64 a0, .int .i64 a1, .int .i64 a2, .int .i64 a3, .int .i64 a4, .int .i64 a5, .int .i64 a6, .int .i64 a7, .int .i64 a8])).run Try.prog w = .ok (.bool true) w := run_eql_st ⟨a0, a1, a2, a3, a4, a5, a6, a7, a8⟩ w
attribute [local go_sem ↓] run_eql_st9

theorem RvsAt.below' {w w' : World} {A : Option Addr} {rs : List Rv} (h : RvsAt w A rs) (hb : Below w.heap.size w w') : RvsAt w' A rs := by
  obtain ⟨os, n, rfl⟩ := below_plus hb
  exact h.plus os n
theorem RvsAt.at_ {w : World} {g g' : Nat} {rs : List Rv} (h : RvsAt w (some ⟨g, 0, none⟩) rs) (e : g' = g) : RvsAt w (some ⟨g', 0, none⟩) rs := by
  subst e; exact h
/-- The reviews, the first k of them of one card. -/
def nameTo (rs : List Rv) (a b : Int) : Nat → List Rv
  | 0 => rs
  | k + 1 => match (nameTo rs a b k)[k]? with
    | none => nameTo rs a b k
    | some r => (nameTo rs a b k).set k { r with bl := a, no := b }
theorem nameTo_len (rs : List Rv) (a b : Int) (k : Nat) : (nameTo rs a b k).length = rs.length := by
  induction k with
  | zero => rfl
  | succ k ih =>
    unfold nameTo
    split
    · exact ih
    · rw [List.length_set]; exact ih
theorem nameTo_succ {rs : List Rv} {a b : Int} {k : Nat} (h : k < (nameTo rs a b k).length) : nameTo rs a b (k + 1) = (nameTo rs a b k).set k { (nameTo rs a b k)[k] with bl := a, no := b } := by
  conv => lhs; unfold nameTo
  rw [List.getElem?_eq_getElem h]
theorem nameTo_named (rs : List Rv) (a b : Int) : ∀ (k j : Nat) (h : j < (nameTo rs a b k).length), j < k → (nameTo rs a b k)[j].bl = a ∧ (nameTo rs a b k)[j].no = b := by
  intro k
  induction k with
  | zero => intro j h hj; omega
  | succ k ih =>
    intro j h hj
    have hl := nameTo_len rs a b k
    have hl2 := nameTo_len rs a b (k + 1)
    have hk : k < (nameTo rs a b k).length ∨ ¬ k < (nameTo rs a b k).length := by omega
    rcases hk with hk | hk
    · have e := nameTo_succ hk
      have goal : ∀ l : List Rv, l = nameTo rs a b (k + 1) → ∀ (h : j < l.length), l[j].bl = a ∧ l[j].no = b := by
        intro l hle h
        rw [e] at hle
        subst hle
        by_cases hjk : k = j
        · subst hjk; rw [List.getElem_set_self]; exact ⟨rfl, rfl⟩
        · rw [List.getElem_set_ne hjk]; exact ih j (by simpa using h) (by omega)
      exact goal _ rfl h
    · have e : nameTo rs a b (k + 1) = nameTo rs a b k := by
        conv => lhs; unfold nameTo
        rw [List.getElem?_eq_none (by omega)]
      have goal : ∀ l : List Rv, l = nameTo rs a b (k + 1) → ∀ (h : j < l.length), l[j].bl = a ∧ l[j].no = b := by
        intro l hle h
        rw [e] at hle
        subst hle
        exact ih j h (by omega)
      exact goal _ rfl h

theorem chances_cases (x : St) (d : Int) : (x.err = 0 ∧ gradeErr x 1 d = 0 ∧ chances x d = (dues x d 4, 0)) ∨ ∃ r, r ≠ 0 ∧ chances x d = ([], r) := by
  unfold chances
  by_cases h : x.err = 0
  · by_cases hg : gradeErr x 1 d = 0
    · exact .inl ⟨h, hg, by rw [if_pos h, if_pos hg]⟩
    · exact .inr ⟨_, hg, by rw [if_pos h, if_neg hg]⟩
  · exact .inr ⟨_, h, by rw [if_neg h]⟩
theorem grade_good {x : St} {d g : Int} (h : x.err = 0) (hg : gradeErr x g d = 0) : x.grade g d = (x.graded g d, 0) := by simp [St.grade, h, hg]
theorem dues_get (x : St) (d : Int) (k : Nat) (h : k < (dues x d 4).length) : (dues x d 4)[k] = (x.graded ((k : Int) + 1) d).du := by
  simp [dues, dueOf]

set_option maxHeartbeats 6400000 in
set_option maxRecDepth 100000 in
theorem topCards_any (x : St) (d : Int) (A : Option Addr) (c : Nat) (rs : List Rv) (w : World) (hA : RvsAt w A rs) (hnil : A = none → rs = [] ∧ c = 0) :
    Calls Try.prog 10 #[x.val, .int .i64 d, .slice A rs.length c] w fun e w' => e = .returned (.bool true) ∧ Below w.heap.size w w' := by
  have haw := hide (fun w => awake_any w)
  have hch := fun w => chances_any x d w
  have hgr := hide (fun g w => grade_any x g d w)
  have hnw := fun w => new_any x.bl x.no w
  have hcc := chances_cases x d
  generalize chances x d = q at hch hcc
  obtain ⟨cl, ce⟩ := q
  simp only [St.val] at hch hnw ⊢
  have HCH := hide hch
  have HNW := hide hnw
  have HA := hide hA
  have HNIL := hide hnil
  clear hch hnw hA hnil
  go_enter Try.func10, Try.ntmps10
  go_upto_if 28 with (first | (go_at_call 41; refine (haw.out _).mono ?_; rintro e w' ⟨rfl, hb⟩; obtain ⟨os1, n1, rfl⟩ := below_plus hb; clear hb) | (go_at_call 17; refine (HCH.out _).mono ?_; rintro e w' ⟨A1, c1, rfl, hI, hb⟩; obtain ⟨os2, n2, rfl⟩ := below_plus hb; clear hb; have HI := hide hI; clear hI))
  have hW : Below w.heap.size w (plus (plus (w.alloc (.cells #[.int .i64 x.bl, .int .i64 x.no, .int .i64 x.st, .int .i64 x.ea, .int .i64 x.du, .int .i64 x.la, .int .i64 x.ti, .int .i64 x.lp, .int .i64 x.bu] 24)) os1 n1) os2 n2) := by repeat (first | exact Below.refl _ _ | refine bl_plus ?_ | refine bl_alloc ?_ _ | refine bl_drew ?_)
  have hbox := Blk.nine (((Blk.new w 24 #[.int .i64 x.bl, .int .i64 x.no, .int .i64 x.st, .int .i64 x.ea, .int .i64 x.du, .int .i64 x.la, .int .i64 x.ti, .int .i64 x.lp, .int .i64 x.bu]).plus (os := os1) (n := n1)).plus (os := os2) (n := n2))
  generalize plus (plus (w.alloc (.cells #[.int .i64 x.bl, .int .i64 x.no, .int .i64 x.st, .int .i64 x.ea, .int .i64 x.du, .int .i64 x.la, .int .i64 x.ti, .int .i64 x.lp, .int .i64 x.bu] 24)) os1 n1) os2 n2 = W0 at hbox hW HI ⊢
  obtain ⟨b0, b1, b2, b3, b4, b5, b6, b7, b8, bf, blt⟩ := hbox
  have HW := hide hW
  clear hW
  go_cut [9, 10, 11] from 28 to 70 (fun s9 s10 s11 wx => ∃ os n, wx = plus W0 os n)
  case first =>
    rcases hcc with ⟨he, hg1, hcc⟩ | ⟨r, hr, hcc⟩
    · injection hcc with hcl hce
      subst hce
      have hl4 : cl.length = 4 := by rw [hcl]; exact dues_len x d 4
      have hnf : NoFall cl := by rw [hcl]; exact dues_nofall x d (St.good_of_err he)
      have hsr := hide (fun w h => isSorted_any A1 c1 cl w h hnf (by rw [hl4]; simp [maxLen]))
      have HCL := hide hcl
      have HE := hide he
      have HG := hide hg1
      obtain ⟨bb, off, rfl, hbb, hcell⟩ := HI.out (by omega)
      have HC := hide hcell
      have hln : ((cl.length : Int) != 4) = false := by simp [hl4]
      have HL4 := hide hl4
      clear hcl hnf hcell he hg1 hl4
      go_wp2_with (go_at_call 42; refine (hsr.out _ HI.out).mono ?_; rintro e w' ⟨rfl, hb⟩; obtain ⟨os5, n5, rfl⟩ := below_plus hb; clear hb)
      go_loopw [9] (fun g wr => ∃ (k : Nat) (os : Array Obj) (n : Nat), 1 ≤ k ∧ k ≤ 5 ∧ g = .int .i64 k ∧ wr = plus W0 os n) (fun g _ => 5 - (intOf g).toNat)
      case atStart => exact ⟨1, _, _, by omega, by omega, rfl, rfl⟩
      case round =>
        obtain ⟨k, os, n, hk1, hk5, rfl, rfl⟩ := hrel
        by_cases hlt : k ≤ 4
        · obtain ⟨k, rfl⟩ : ∃ q, k = q + 1 := ⟨k - 1, by omega⟩
          have hl4 := HL4.out
          have hgk : gradeErr x ((k : Int) + 1) d = 0 := gradeErr_one HG.out _ (by omega) (by omega)
          have hgd := fun w => hgr.out ((k : Int) + 1) w
          rw [grade_good HE.out hgk] at hgd
          have hck := fun w => checkState_any (x.graded ((k : Int) + 1) d) w
          rw [St.err_graded HE.out hgk] at hck
          have hla : (x.graded ((k : Int) + 1) d).la = d := rfl
          have hdu : cl[k]'(by omega) = (x.graded ((k : Int) + 1) d).du := by
            have h1 := HCL.out
            subst h1
            rw [dues_get]
          have hci := HC.out k (by omega)
          rw [hdu] at hci
          generalize x.graded ((k : Int) + 1) d = y at hgd hck hla hci
          clear hdu hgk
          simp only [St.val] at hgd hck
          have HGD := hide hgd
          have HCK := hide hck
          clear hgd hck
          have hzc : ((k + 1 : Nat) : Int) = (k : Int) + 1 := by omega
          have i3 : IntKind.i64.wrap ((k : Int) + 1) = (k : Int) + 1 := IntWalk.i64_in _ (by omega)
          have i4 : IntKind.i64.wrap (k : Int) = (k : Int) := IntWalk.i64_in _ (by omega)
          have i5 : IntKind.i64.wrap ((k : Int) + 1 - 1) = (k : Int) := by rw [show (k : Int) + 1 - 1 = (k : Int) by omega]; exact i4
          have i6 : (k : Int) < (cl.length : Int) := by omega
          have i7 : (0 : Int) ≤ (k : Int) := by omega
          have hk4 : (k : Int) + 1 ≤ 4 := by omega
          have hld : (y.la != d) = false := by simp [hla]
          clear hl4 hla
          go_upto_region 11 with (go_at_call 15; refine (HGD.out _).mono ?_; rintro e w' ⟨rfl, hb⟩; obtain ⟨os6, n6, rfl⟩ := below_plus hb; clear hb)
          obtain ⟨y0, y1, y2, y3, y4, y5, y6, y7, y8, yf, ylt⟩ := Blk.nine (Blk.new (plus (plus W0 os n) os6 n6) 24 #[.int .i64 y.bl, .int .i64 y.no, .int .i64 y.st, .int .i64 y.ea, .int .i64 y.du, .int .i64 y.la, .int .i64 y.ti, .int .i64 y.lp, .int .i64 y.bu])
          simp only [plus_size] at y0 y1 y2 y3 y4 y5 y6 y7 y8 ylt
          have hci2 : ((plus (plus W0 os n) os6 n6).alloc (.cells #[.int .i64 y.bl, .int .i64 y.no, .int .i64 y.st, .int .i64 y.ea, .int .i64 y.du, .int .i64 y.la, .int .i64 y.ti, .int .i64 y.lp, .int .i64 y.bu] 24)).cell? ⟨bb, off + k, none⟩ = some (.int .i64 y.du) := by
            rw [World.cell?_alloc_past _ _ _ (by simp only [plus_size]; omega), plus_cell (by rw [plus_size]; omega), plus_cell hbb]; exact hci
          have hbb2 : bb < ((plus (plus W0 os n) os6 n6).alloc (.cells #[.int .i64 y.bl, .int .i64 y.no, .int .i64 y.st, .int .i64 y.ea, .int .i64 y.du, .int .i64 y.la, .int .i64 y.ti, .int .i64 y.lp, .int .i64 y.bu] 24)).heap.size := by rw [World.size_alloc, plus_size, plus_size]; omega
          obtain ⟨os8, n8, e8⟩ := below_plus (show Below W0.heap.size W0 ((plus (plus W0 os n) os6 n6).alloc (.cells #[.int .i64 y.bl, .int .i64 y.no, .int .i64 y.st, .int .i64 y.ea, .int .i64 y.du, .int .i64 y.la, .int .i64 y.ti, .int .i64 y.lp, .int .i64 y.bu] 24)) from by repeat (first | exact Below.refl _ _ | refine bl_plus ?_ | refine bl_alloc ?_ _ | refine bl_drew ?_))
          generalize hgy : W0.heap.size + os.size + os6.size = gy at y0 y1 y2 y3 y4 y5 y6 y7 y8 ylt ⊢
          generalize (plus (plus W0 os n) os6 n6).alloc (.cells #[.int .i64 y.bl, .int .i64 y.no, .int .i64 y.st, .int .i64 y.ea, .int .i64 y.du, .int .i64 y.la, .int .i64 y.ti, .int .i64 y.lp, .int .i64 y.bu] 24) = Wy at y0 y1 y2 y3 y4 y5 y6 y7 y8 ylt hci2 hbb2 e8 ⊢
          have HGY := hide hgy
          have HE8 := hide e8
          clear hgy yf e8 hci
          go_cut [70] from 48 to 69 (fun v wx => v = .bool false ∧ ∃ os' n', wx = plus Wy os' n')
          case first =>
            go_region_held3 (fun w' => w'.cell? ⟨gy, 0, none⟩ = some (.int .i64 y.bl) ∧ w'.cell? ⟨gy, 1, none⟩ = some (.int .i64 y.no) ∧ w'.cell? ⟨gy, 2, none⟩ = some (.int .i64 y.st) ∧ w'.cell? ⟨gy, 3, none⟩ = some (.int .i64 y.ea) ∧ w'.cell? ⟨gy, 4, none⟩ = some (.int .i64 y.du) ∧ w'.cell? ⟨gy, 5, none⟩ = some (.int .i64 y.la) ∧ w'.cell? ⟨gy, 6, none⟩ = some (.int .i64 y.ti) ∧ w'.cell? ⟨gy, 7, none⟩ = some (.int .i64 y.lp) ∧ w'.cell? ⟨gy, 8, none⟩ = some (.int .i64 y.bu) ∧ w'.cell? ⟨bb, off + k, none⟩ = some (.int .i64 y.du) ∧ gy < w'.heap.size ∧ bb < w'.heap.size) (simp [*, plus_cell, plus_size, lt_more1])
              (first | (go_at_call 43; refine (HCK.out _).mono ?_; rintro e w' ⟨rfl, hb⟩; obtain ⟨os7, n7, rfl⟩ := below_plus hb; clear hb))
            all_goals go_wp2
            all_goals go_meet
            all_goals exact ⟨rfl, _, _, rfl⟩
          case rest =>
            obtain ⟨rfl, os7, n7, rfl⟩ := hcut
            go_wp2
            go_roundw
            case rel => exact ⟨k + 1 + 1, _, _, by omega, by omega, by go_num, by rw [HE8.out, plus_plus]⟩
            case measure => simp [intOf]; omega
        · have hltz : ¬ (k : Int) ≤ 4 := by omega
          go_wp2
          go_meet
          exact ⟨_, _, rfl⟩
    · injection hcc with hcl hce
      subst hce
      have hr0 : (ce == 0) = false := by simp [hr]
      clear hr hcl
      go_wp2
      go_meet
      exact ⟨#[], _, plus_nil.symm⟩
  case rest =>
    obtain ⟨os3, n3, rfl⟩ := hcut
    clear hcc HCH hgr haw HI
    by_cases hn : (St.new x.bl x.no).2 = 0
    · obtain ⟨hn1, hfe⟩ := St.new_ok hn
      have hnw := HNW.out
      rw [hn1, hn] at hnw
      have hre := hide (fun w A c rs h => replay_any x.bl x.no A c rs w h)
      have hrr : ∀ rs : List Rv, rs.length ≤ 20000 → replay x.bl x.no rs = replayFrom (St.fresh x.bl x.no) 0 rs := fun rs hl => by
        unfold replay; rw [if_pos hn, if_neg (by omega), hn1]
      have HRR := hide hrr
      have hfb : (St.fresh x.bl x.no).bl = x.bl := rfl
      have hfn : (St.fresh x.bl x.no).no = x.no := rfl
      generalize St.fresh x.bl x.no = y at hnw hfe HRR hfb hfn
      have HNW2 := hide hnw
      have HFE := hide hfe
      have HFB := hide hfb
      have HFN := hide hfn
      clear HNW hn hn1 hnw hrr hfe hfb hfn
      by_cases hlen : 20000 < rs.length
      · have hlz : (20000 : Int) < (rs.length : Int) := by omega
        go_wp2_with (go_at_call 44; refine (HNW2.out _).mono ?_; rintro e w' ⟨rfl, hb⟩; obtain ⟨os4, n4, rfl⟩ := below_plus hb; clear hb)
        go_returns
        exact ⟨rfl, by repeat (first | exact HW.out | exact Below.refl _ _ | refine bl_plus ?_ | refine bl_alloc ?_ _ | refine bl_drew ?_)⟩
      · have hlz : ¬ (20000 : Int) < (rs.length : Int) := by omega
        have hcl := hide (fun w h => cloneRvs_any A c rs w h HNIL.out (by omega))
        have hre2 : Hid (∀ w A c L, RvsAt w A L → L.length = rs.length → Calls Try.prog 13 #[.int .i64 x.bl, .int .i64 x.no, .slice A rs.length c] w fun e w' => e = .returned (.tuple #[(replayFrom y 0 L).1.val, .int .i64 (replayFrom y 0 L).2.1, .int .i64 (replayFrom y 0 L).2.2]) ∧ Below w.heap.size w w') := fun w A c L h hl => by
          rw [← hl, ← HRR.out L (by omega)]; exact hre.out w A c L h
        go_upto_region 18 with (go_at_call 44; refine (HNW2.out _).mono ?_; rintro e w' ⟨rfl, hb⟩; obtain ⟨os4, n4, rfl⟩ := below_plus hb; clear hb)
        have hv0 : (plus (plus W0 os3 n3) os4 n4).cell? ⟨w.heap.size, 0, none⟩ = some (.int .i64 x.bl) := by rw [plus_cell (by rw [plus_size]; omega), plus_cell blt]; exact b0
        have hv1 : (plus (plus W0 os3 n3) os4 n4).cell? ⟨w.heap.size, 1, none⟩ = some (.int .i64 x.no) := by rw [plus_cell (by rw [plus_size]; omega), plus_cell blt]; exact b1
        have hvlt : w.heap.size < (plus (plus W0 os3 n3) os4 n4).heap.size := by rw [plus_size, plus_size]; omega
        have hVb : Below w.heap.size w (plus (plus W0 os3 n3) os4 n4) := by repeat (first | exact HW.out | refine bl_plus ?_)
        rw [show W0.heap.size + os3.size + os4.size = (plus (plus W0 os3 n3) os4 n4).heap.size by rw [plus_size, plus_size]]
        generalize plus (plus W0 os3 n3) os4 n4 = V at hv0 hv1 hvlt hVb ⊢
        have HV := hide hVb
        clear b0 b1 b2 b3 b4 b5 b6 b7 b8 bf blt hVb HRR hre HNW2
        by_cases hz : rs.length = 0
        · have hrs : rs = [] := List.length_eq_zero_iff.1 hz
          subst hrs
          have hre3 := hide (fun w A c => hre2.out w A c [] (fun h => absurd h (by simp)) rfl)
          simp only [replayFrom, St.val, List.length_nil] at hre3
          clear hre2 hz
          go_wp2_with (go_at_call 45; refine (hcl.out _ (HA.out.below' (by repeat (first | exact HV.out | exact Below.refl _ _ | refine bl_plus ?_ | refine bl_alloc ?_ _ | refine bl_drew ?_)))).mono ?_; rintro e w' ⟨v, rfl, hown, hb⟩; obtain ⟨A2, c2, rfl, _⟩ := own_form hown; obtain ⟨os5, n5, rfl⟩ := below_plus hb; clear hb hown)
          refine wp_loop_rounds 1 ?_
          rw [rounds_succ]
          go_wp2_with (go_at_call 13; refine (hre3.out _ _ _).mono ?_; rintro e w' ⟨rfl, hb⟩; obtain ⟨os7, n7, rfl⟩ := below_plus hb; clear hb)
          refine wp_loop_rounds 1 ?_
          rw [rounds_succ]
          go_wp2
          go_returns
          exact ⟨rfl, (by repeat (first | exact HV.out | exact Below.refl _ _ | refine bl_plus ?_ | refine bl_alloc ?_ _ | refine bl_drew ?_))⟩
        · go_wp2_with (go_at_call 45; refine (hcl.out _ (HA.out.below' (by repeat (first | exact HV.out | exact Below.refl _ _ | refine bl_plus ?_ | refine bl_alloc ?_ _ | refine bl_drew ?_)))).mono ?_; rintro e w' ⟨v, rfl, hown, hb⟩; obtain ⟨g2, cs, cap, rfl, hge, hB, hnc, _, hRow⟩ := own_bareR hown (by omega); obtain ⟨os5, n5, os6, n6, rfl, rfl⟩ := bare hb hB hge; have HRow := hide hRow; clear hb hB hge hown hRow)
          go_loopw [88] (fun i wr => ∃ (k : Nat) (cs' : Array Value) (os : Array Obj) (n : Nat), k ≤ rs.length ∧ i = .int .i64 k ∧ Hid (RowR cs' (nameTo rs x.bl x.no k)) ∧ wr = plus ((plus (V.alloc (.cells #[.int .i64 y.bl, .int .i64 y.no, .int .i64 y.st, .int .i64 y.ea, .int .i64 y.du, .int .i64 y.la, .int .i64 y.ti, .int .i64 y.lp, .int .i64 y.bu] 24)) os5 n5).alloc (.cells cs' 65)) os n)
            (fun i _ => rs.length - (intOf i).toNat)
          case atStart => exact ⟨0, _, _, _, Nat.zero_le _, rfl, HRow, rfl⟩
          case round =>
            obtain ⟨k, cs', os, n, hk, rfl, hrow, rfl⟩ := hrel
            by_cases hlt : k < rs.length
            · have hkl : k < (nameTo rs x.bl x.no k).length := by rw [nameTo_len]; exact hlt
              obtain ⟨a0, a1, a2, a3⟩ := hrow.out.at_ hkl
              have HNX := hide (hrow.out.name hkl x.bl x.no)
              rw [← nameTo_succ hkl] at HNX
              generalize (nameTo rs x.bl x.no k)[k] = r at a0 a1 a2 a3
              clear hrow hkl
              go_wp2_with fail
              go_big_region
              all_goals go_wp2
              all_goals go_roundw
              case rel => exact ⟨k + 1, _, _, _, hlt, by go_num, HNX, rfl⟩
              case measure => simp [intOf]; omega
            · have hkl : k = rs.length := by omega
              subst hkl
              have hL1 := nameTo_len rs x.bl x.no rs.length
              have hL2 := nameTo_named rs x.bl x.no rs.length
              generalize nameTo rs x.bl x.no rs.length = L at hrow hL1 hL2
              have hre3 := hide (fun w A c h => hre2.out w A c L h hL1)
              obtain ⟨z, hzq⟩ : ∃ z, replayFrom y 0 L = z := ⟨_, rfl⟩
              obtain ⟨z, zt, ze⟩ := z
              rw [hzq] at hre3
              simp only [St.val] at hre3
              have HQ := hide hzq
              have HL1 := hide hL1
              have HL2 := hide hL2
              clear hre2 hzq hL1 hL2 hk
              go_wp2_with (go_at_call 13; refine (hre3.out _ _ _ (RvsAt.at_ (rvsAt_row (Blk.new _ _ _).plus hrow.out) (by simp only [plus_size, World.size_alloc]))).mono ?_; rintro e w' ⟨rfl, hb⟩; obtain ⟨os7, n7, rfl⟩ := below_plus hb; clear hb; rw [plus_plus])
              go_loopw [116] (fun i wr => ∃ (k : Nat) (y' : St) (os' : Array Obj) (n' : Nat), k ≤ rs.length ∧ i = .int .i64 k ∧ Hid (y'.err = 0 ∧ y'.bl = x.bl ∧ y'.no = x.no ∧ replayFrom y' k (L.drop k) = (z, zt, ze)) ∧
                  wr = plus ((plus ((plus (V.alloc (.cells #[.int .i64 y'.bl, .int .i64 y'.no, .int .i64 y'.st, .int .i64 y'.ea, .int .i64 y'.du, .int .i64 y'.la, .int .i64 y'.ti, .int .i64 y'.lp, .int .i64 y'.bu] 24)) os5 n5).alloc (.cells cs' 65)) (os ++ os7) n7).alloc (.cells #[.int .i64 z.bl, .int .i64 z.no, .int .i64 z.st, .int .i64 z.ea, .int .i64 z.du, .int .i64 z.la, .int .i64 z.ti, .int .i64 z.lp, .int .i64 z.bu] 24)) os' n')
                (fun i _ => rs.length - (intOf i).toNat)
              case atStart => exact ⟨0, y, #[], _, Nat.zero_le _, rfl, ⟨HFE.out, HFB.out, HFN.out, by simpa using HQ.out⟩, plus_nil.symm⟩
              case round =>
                obtain ⟨k, y', os', n', hk, rfl, HY, rfl⟩ := hrel
                by_cases hlt : k < rs.length
                · have hkl : k < L.length := by rw [HL1.out]; exact hlt
                  obtain ⟨a0, a1, a2, a3⟩ := hrow.out.at_ hkl
                  obtain ⟨y1, y2, y3, y4⟩ := HY.out
                  have hnm := HL2.out k hkl hlt
                  rw [drop_cons L k hkl] at y4
                  generalize L[k] = r at a0 a1 a2 a3 hnm y4
                  simp only [replayFrom] at y4
                  rw [if_pos ⟨by rw [hnm.1, y2], by rw [hnm.2, y3]⟩] at y4
                  have hgd := fun w => grade_any y' r.gr r.da w
                  by_cases hge : gradeErr y' r.gr r.da = 0
                  · rw [if_pos hge] at y4
                    rw [grade_good y1 hge] at hgd
                    have hye := St.err_graded y1 hge
                    have hyb : (y'.graded r.gr r.da).bl = x.bl := y2
                    have hyn : (y'.graded r.gr r.da).no = x.no := y3
                    generalize y'.graded r.gr r.da = q at hgd y4 hye hyb hyn
                    simp only [St.val] at hgd
                    have HGD := hide hgd
                    have HY2 : Hid (q.err = 0 ∧ q.bl = x.bl ∧ q.no = x.no ∧ replayFrom q ((k + 1 : Nat) : Int) (L.drop (k + 1)) = (z, zt, ze)) := ⟨hye, hyb, hyn, by simpa using y4⟩
                    clear hgd y1 y2 y3 y4 HY hye hyb hyn hge hnm hkl
                    go_wp2_with (go_at_call 15; refine (HGD.out _).mono ?_; rintro e w' ⟨rfl, hb⟩; obtain ⟨os8, n8, rfl⟩ := below_plus hb; clear hb)
                    go_roundw
                    case rel => exact ⟨k + 1, q, _, _, hlt, by go_num, HY2, by rw [plus_alloc, plus_plus]⟩
                    case measure => simp [intOf]; omega
                  · rw [if_neg hge] at y4
                    have hgb : y'.grade r.gr r.da = (St.zero, gradeErr y' r.gr r.da) := by simp [St.grade, y1, hge]
                    rw [hgb] at hgd
                    injection y4 with _ y5
                    injection y5 with y6 y7
                    subst y6
                    rw [y7] at hgd
                    have hzb : (ze == 0) = false := by simp [← y7, hge]
                    simp only [St.val, St.zero] at hgd
                    have HGD := hide hgd
                    clear hgd y1 y2 y3 y7 hge hgb hnm hkl HY
                    go_wp2_with (go_at_call 15; refine (HGD.out _).mono ?_; rintro e w' ⟨rfl, hb⟩; obtain ⟨os8, n8, rfl⟩ := below_plus hb; clear hb)
                    go_returns
                    exact ⟨rfl, (by repeat (first | exact HV.out | exact Below.refl _ _ | refine bl_plus ?_ | refine bl_alloc ?_ _ | refine bl_drew ?_))⟩
                · have hkl : k = rs.length := by omega
                  subst hkl
                  obtain ⟨_, _, _, y4⟩ := HY.out
                  rw [← HL1.out, List.drop_length] at y4
                  simp only [replayFrom] at y4
                  injection y4 with y5 y6
                  injection y6 with y6 y7
                  subst y5 y6 y7
                  clear HY HQ
                  go_wp2
                  go_returns
                  exact ⟨rfl, (by repeat (first | exact HV.out | exact Below.refl _ _ | refine bl_plus ?_ | refine bl_alloc ?_ _ | refine bl_drew ?_))⟩
    · have hnb : ((St.new x.bl x.no).2 == 0) = false := by simp [hn]
      generalize St.new x.bl x.no = q at HNW hnb
      obtain ⟨y, r⟩ := q
      clear hn
      go_wp2_with (go_at_call 44; refine (HNW.out _).mono ?_; rintro e w' ⟨rfl, hb⟩; obtain ⟨os4, n4, rfl⟩ := below_plus hb; clear hb)
      go_returns
      exact ⟨rfl, by repeat (first | exact HW.out | exact Below.refl _ _ | refine bl_plus ?_ | refine bl_alloc ?_ _ | refine bl_drew ?_)⟩

end Go.Proofs.Ytokghdcfbbogdaa
