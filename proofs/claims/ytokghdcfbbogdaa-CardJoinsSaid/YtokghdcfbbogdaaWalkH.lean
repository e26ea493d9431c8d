/-
  WALKS: Replay.
-/
import Derived.Test.YtokghdcfbbogdaaWalkF
import Derived.Test.YtokghdcfbbogdaaPlain
import Derived.Deep.DeepCutAuto
import Derived.Deep.RegionWith
namespace Go.Proofs.Ytokghdcfbbogdaa
open Go.RowKit

def neqName (a b c d : Int) : Bool := !(a == c && b == d)
theorem run_neq_name (a b c d : Int) (w : World) : (binOp .neq 77 (.agg #[.int .i64 a, .int .i64 b]) (.agg #[.int .i64 c, .int .i64 d])).run Try.prog w = .ok (.bool (neqName a b c d)) w := by
  unfold neqName
  by_cases h1 : a = c
  · by_cases h2 : b = d
    · subst h1 h2; simp [go_sem]
    · subst h1; simp [go_sem, h2]
  · simp [go_sem, h1]

attribute [local go_sem ↓] run_neq_name

/-- A slice of reviews that came in. -/
def RvsAt (w : World) (A : Option Addr) (rs : List Rv) : Prop :=
  0 < rs.length → ∃ b off, A = some ⟨b, off, none⟩ ∧ b < w.heap.size ∧ ∀ j (h : j < rs.length),
    w.cell? ⟨b, off + j * 4, none⟩ = some (.int .i64 rs[j].bl) ∧ w.cell? ⟨b, off + j * 4 + 1, none⟩ = some (.int .i64 rs[j].no) ∧
    w.cell? ⟨b, off + j * 4 + 2, none⟩ = some (.int .i64 rs[j].gr) ∧ w.cell? ⟨b, off + j * 4 + 3, none⟩ = some (.int .i64 rs[j].da)

theorem drop_cons {α : Type} (l : List α) (k : Nat) (h : k < l.length) : l.drop k = l[k] :: l.drop (k + 1) := List.drop_eq_getElem_cons h

set_option maxHeartbeats 2000000 in
set_option maxRecDepth 100000 in
theorem replay_run (bl no : Int) (A : Option Addr) (c : Nat) (rs : List Rv) (w : World) (hA : RvsAt w A rs) (hlen : rs.length ≤ 20000) (hn : (St.new bl no).2 = 0) :
    Calls Try.prog 13 #[.int .i64 bl, .int .i64 no, .slice A rs.length c] w fun e w' => e = .returned (.tuple #[(replay bl no rs).1.val, .int .i64 (replay bl no rs).2.1, .int .i64 (replay bl no rs).2.2]) ∧ Below w.heap.size w w' := by
  have hR : replay bl no rs = replayFrom (St.fresh bl no) 0 rs := by
    unfold replay; rw [if_pos hn, if_neg (by omega), (St.new_ok hn).1]
  rw [hR]
  have hnew := fun w => new_any bl no w
  rw [(St.new_ok hn).1, hn] at hnew
  have hfr := (St.new_ok hn).2
  simp only [St.fresh, St.val] at hnew
  have H := hide hnew
  clear hnew
  generalize hRR : replayFrom (St.fresh bl no) 0 rs = RR
  have HR := hide hRR
  have HA := hide hA
  have HF := hide hfr
  clear hRR hA hR hn hfr
  have hlen' : ¬ (20000 : Int) < (rs.length : Int) := by omega
  go_enter Try.func13, Try.ntmps13
  go_wp2_with (go_at_call 44; refine (H.out _).mono ?_; rintro e w' ⟨rfl, hb⟩; obtain ⟨os, n, rfl⟩ := below_plus hb; clear hb)
  go_loopw [30] (fun i wr => ∃ (k : Nat) (x : St) (os' : Array Obj) (n' : Nat), k ≤ rs.length ∧ i = .int .i64 k ∧ x.err = 0 ∧ x.bl = bl ∧ x.no = no ∧
      replayFrom x k (rs.drop k) = RR ∧
      wr = plus ((plus (w.alloc (.cells #[.int .i64 0, .int .i64 0, .int .i64 0, .int .i64 0, .int .i64 0, .int .i64 0, .int .i64 0, .int .i64 0, .int .i64 0] 24)) os n).alloc
        (.cells #[.int .i64 x.bl, .int .i64 x.no, .int .i64 x.st, .int .i64 x.ea, .int .i64 x.du, .int .i64 x.la, .int .i64 x.ti, .int .i64 x.lp, .int .i64 x.bu] 24)) os' n')
    (fun i _ => rs.length - (intOf i).toNat)
  case atStart => exact ⟨0, St.fresh bl no, #[], _, Nat.zero_le _, rfl, HF.out, rfl, rfl, HR.out, plus_nil.symm⟩
  case round =>
    obtain ⟨k, x, os', n', hk, rfl, hx, hxb, hxn, hrr, rfl⟩ := hrel
    by_cases hlt : k < rs.length
    · obtain ⟨b, off, rfl, hb, hcell⟩ := HA.out (by omega)
      obtain ⟨c0, c1, c2, c3⟩ := hcell k hlt
      obtain ⟨r, hr⟩ : ∃ r, rs[k] = r := ⟨_, rfl⟩
      rw [hr] at c0 c1 c2 c3
      clear hcell
      obtain ⟨rbl, rno, rgr, rda⟩ := r
      simp only at c0 c1 c2 c3
      have Hr := hide hr
      have Hx := hide hx
      have Hxb := hide hxb
      have Hxn := hide hxn
      have Hrr := hide hrr
      clear hr hx hxb hxn hrr
      have hsn := fun w => stateName_any x w
      simp only [St.val] at hsn
      have Hsn := hide hsn
      clear hsn
      go_upto_region 9 with (fail)
      go_cut [39] (fun v wx => v = .bool (neqName rbl rno x.bl x.no) ∧ ∃ os2 n2, wx = plus ((plus ((plus (w.alloc (.cells #[.int .i64 0, .int .i64 0, .int .i64 0, .int .i64 0, .int .i64 0, .int .i64 0, .int .i64 0, .int .i64 0, .int .i64 0] 24)) os n).alloc (.cells #[.int .i64 x.bl, .int .i64 x.no, .int .i64 x.st, .int .i64 x.ea, .int .i64 x.du, .int .i64 x.la, .int .i64 x.ti, .int .i64 x.lp, .int .i64 x.bu] 24)) os' n').alloc (.cells #[.int .i64 rbl, .int .i64 rno, .int .i64 rgr, .int .i64 rda] 65)) os2 n2)
      case first =>
        go_region_with (first | (go_at_call 53; refine (reviewName_any _ _ _ _ _).mono ?_; rintro e w' ⟨rfl, hb⟩; obtain ⟨os3, n3, rfl⟩ := below_plus hb; clear hb) | (go_at_call 54; refine (Hsn.out _).mono ?_; rintro e w' ⟨rfl, hb⟩; obtain ⟨os3, n3, rfl⟩ := below_plus hb; clear hb))
        all_goals go_wp2
        all_goals go_meet
        all_goals exact ⟨rfl, _, _, plus_plus⟩
      case rest =>
        obtain ⟨rfl, os2, n2, rfl⟩ := hcut
        have hstep := Hrr.out
        rw [drop_cons rs k hlt, Hr.out] at hstep
        by_cases hq : rbl = x.bl ∧ rno = x.no
        · have hqn : neqName rbl rno x.bl x.no = false := by simp [neqName, hq.1, hq.2]
          rw [hqn]
          clear hqn
          simp only [replayFrom, if_pos hq] at hstep
          have Hq := hide hq
          clear hq
          have hcg := fun w => checkGrade_any x rgr rda w
          simp only [St.val] at hcg
          by_cases hge : gradeErr x rgr rda = 0
          · rw [if_pos hge] at hstep
            rw [hge] at hcg
            obtain ⟨g1, d1, d2, d3⟩ := gradeErr_zero hge
            have hgd := fun w => graded_any x rgr rda w (St.good_of_err Hx.out) g1 d1 d2
            have hye := St.err_graded Hx.out hge
            have hyb : (x.graded rgr rda).bl = bl := Hxb.out
            have hyn : (x.graded rgr rda).no = no := Hxn.out
            generalize x.graded rgr rda = y at hgd hstep hye hyb hyn
            simp only [St.val] at hgd
            have Hcg := hide hcg
            have Hgd := hide hgd
            have Hst := hide hstep
            have Hye := hide hye
            have Hyb := hide hyb
            have Hyn := hide hyn
            clear hcg hgd hstep hye hyb hyn hge g1 d1 d2 d3
            go_wp2_with (first | (go_at_call 55; refine (Hcg.out _).mono ?_; rintro e w' ⟨rfl, hb⟩; obtain ⟨os3, n3, rfl⟩ := below_plus hb; clear hb) | (go_at_call 56; refine (Hgd.out _).mono ?_; rintro e w' ⟨rfl, hb⟩; obtain ⟨os4, n4, rfl⟩ := below_plus hb; clear hb))
            go_roundw
            case rel => exact ⟨k + 1, y, _, _, hlt, by go_num, Hye.out, Hyb.out, Hyn.out, by have := Hst.out; simpa using this, by rw [plus_plus, plus_plus, plus_alloc, plus_plus]⟩
            case measure => simp [intOf]; omega
          · rw [if_neg hge] at hstep
            generalize gradeErr x rgr rda = r at hcg hstep hge
            have hr0 : (r == 0) = false := by simp [hge]
            have Hcg := hide hcg
            have Hst := hide hstep
            clear hcg hstep hge
            go_wp2_with (go_at_call 55; refine (Hcg.out _).mono ?_; rintro e w' ⟨rfl, hb⟩; obtain ⟨os3, n3, rfl⟩ := below_plus hb; clear hb)
            go_returns
            exact ⟨by rw [← Hst.out]; rfl, by repeat (first | exact Below.refl _ _ | refine bl_plus ?_ | refine bl_alloc ?_ _ | refine bl_drew ?_)⟩
        · have hqn : neqName rbl rno x.bl x.no = true := by
            unfold neqName
            by_cases h1 : rbl = x.bl
            · have h2 : ¬ rno = x.no := fun h2 => hq ⟨h1, h2⟩
              simp [h2]
            · simp [h1]
          rw [hqn]
          clear hqn
          simp only [replayFrom, if_neg hq] at hstep
          have Hst := hide hstep
          clear hq hstep
          go_wp2
          go_roundw
          case rel => exact ⟨k + 1, x, _, _, hlt, by go_num, Hx.out, Hxb.out, Hxn.out, by have := Hst.out; simpa using this, by rw [plus_alloc, plus_plus]⟩
          case measure => simp [intOf]; omega
    · have hkl : k = rs.length := by omega
      have Hx := hide hx
      have Hrr := hide hrr
      clear hx hxb hxn hrr
      go_wp2
      go_returns
      exact ⟨by rw [← Hrr.out, hkl]; simp [replayFrom, St.val], by repeat (first | exact Below.refl _ _ | refine bl_plus ?_ | refine bl_alloc ?_ _ | refine bl_drew ?_)⟩

end Go.Proofs.Ytokghdcfbbogdaa
/-
  WALKS: the reference's Replay.
-/
namespace Go.Proofs.Ytokghdcfbbogdaa
open Go.RowKit

set_option maxHeartbeats 2000000 in
set_option maxRecDepth 100000 in
theorem replayOf_run (bl no : Int) (A : Option Addr) (c : Nat) (rs : List Rv) (w : World) (hA : RvsAt w A rs) (hlen : rs.length ≤ 20000) (hn : (St.new bl no).2 = 0) :
    Calls Try.prog 14 #[.int .i64 bl, .int .i64 no, .slice A rs.length c] w fun e w' => e = .returned (.tuple #[(replay bl no rs).1.val, .int .i64 (replay bl no rs).2.1, .int .i64 (replay bl no rs).2.2]) ∧ Below w.heap.size w w' := by
  have hR : replay bl no rs = replayFrom (St.fresh bl no) 0 rs := by
    unfold replay; rw [if_pos hn, if_neg (by omega), (St.new_ok hn).1]
  rw [hR]
  have hnew := fun w => newOf_any bl no w
  rw [(St.new_ok hn).1, hn] at hnew
  have hfr := (St.new_ok hn).2
  simp only [St.fresh, St.val] at hnew
  have H := hide hnew
  clear hnew
  generalize hRR : replayFrom (St.fresh bl no) 0 rs = RR
  have HR := hide hRR
  have HA := hide hA
  have HF := hide hfr
  clear hRR hA hR hn hfr
  have hlen' : ¬ (20000 : Int) < (rs.length : Int) := by omega
  go_enter Try.func14, Try.ntmps14
  go_wp2_with (go_at_call 57; refine (H.out _).mono ?_; rintro e w' ⟨rfl, hb⟩; obtain ⟨os, n, rfl⟩ := below_plus hb; clear hb)
  go_loopw [29] (fun i wr => ∃ (k : Nat) (x : St) (os' : Array Obj) (n' : Nat), k ≤ rs.length ∧ i = .int .i64 k ∧ x.err = 0 ∧ x.bl = bl ∧ x.no = no ∧
      replayFrom x k (rs.drop k) = RR ∧
      wr = plus ((plus (w.alloc (.cells #[.int .i64 0, .int .i64 0, .int .i64 0, .int .i64 0, .int .i64 0, .int .i64 0, .int .i64 0, .int .i64 0, .int .i64 0] 24)) os n).alloc
        (.cells #[.int .i64 x.bl, .int .i64 x.no, .int .i64 x.st, .int .i64 x.ea, .int .i64 x.du, .int .i64 x.la, .int .i64 x.ti, .int .i64 x.lp, .int .i64 x.bu] 24)) os' n')
    (fun i _ => rs.length - (intOf i).toNat)
  case atStart => exact ⟨0, St.fresh bl no, #[], _, Nat.zero_le _, rfl, HF.out, rfl, rfl, HR.out, plus_nil.symm⟩
  case round =>
    obtain ⟨k, x, os', n', hk, rfl, hx, hxb, hxn, hrr, rfl⟩ := hrel
    by_cases hlt : k < rs.length
    · obtain ⟨b, off, rfl, hb, hcell⟩ := HA.out (by omega)
      obtain ⟨c0, c1, c2, c3⟩ := hcell k hlt
      obtain ⟨r, hr⟩ : ∃ r, rs[k] = r := ⟨_, rfl⟩
      rw [hr] at c0 c1 c2 c3
      clear hcell
      obtain ⟨rbl, rno, rgr, rda⟩ := r
      simp only at c0 c1 c2 c3
      have Hr := hide hr
      have Hx := hide hx
      have Hxb := hide hxb
      have Hxn := hide hxn
      have Hrr := hide hrr
      clear hr hx hxb hxn hrr
      have hstep := Hrr.out
      rw [drop_cons rs k hlt, Hr.out] at hstep
      by_cases hq : rbl = x.bl ∧ rno = x.no
      · have h1 : (rbl == bl) = true := by rw [← Hxb.out]; simp [hq.1]
        have h2 : (rno == no) = true := by rw [← Hxn.out]; simp [hq.2]
        simp only [replayFrom, if_pos hq] at hstep
        clear hq
        have hcg := fun w => gradeOf_any x rgr rda w
        have hge1 := Hx.out
        by_cases hge : gradeErr x rgr rda = 0
        · have hgg : x.grade rgr rda = (x.graded rgr rda, 0) := by simp [St.grade, hge1, hge]
          rw [if_pos hge] at hstep
          rw [hgg] at hcg
          have hye := St.err_graded hge1 hge
          have hyb : (x.graded rgr rda).bl = bl := Hxb.out
          have hyn : (x.graded rgr rda).no = no := Hxn.out
          generalize x.graded rgr rda = y at hcg hstep hye hyb hyn
          simp only [St.val] at hcg
          have Hcg := hide hcg
          have Hst := hide hstep
          have Hye := hide hye
          have Hyb := hide hyb
          have Hyn := hide hyn
          clear hcg hstep hye hyb hyn hge hge1 hgg
          go_wp2_with (go_at_call 16; refine (Hcg.out _).mono ?_; rintro e w' ⟨rfl, hb⟩; obtain ⟨os3, n3, rfl⟩ := below_plus hb; clear hb)
          go_roundw
          case rel => exact ⟨k + 1, y, _, _, hlt, by go_num, Hye.out, Hyb.out, Hyn.out, by have := Hst.out; simpa using this, by rw [plus_alloc, plus_plus]⟩
          case measure => simp [intOf]; omega
        · have hgg : x.grade rgr rda = (St.zero, gradeErr x rgr rda) := by simp [St.grade, hge1, hge]
          rw [if_neg hge] at hstep
          rw [hgg] at hcg
          generalize gradeErr x rgr rda = r at hcg hstep hge
          simp only [St.zero, St.val] at hcg
          have hr0 : (r == 0) = false := by simp [hge]
          have Hcg := hide hcg
          have Hst := hide hstep
          clear hcg hstep hge hge1 hgg
          go_wp2_with (go_at_call 16; refine (Hcg.out _).mono ?_; rintro e w' ⟨rfl, hb⟩; obtain ⟨os3, n3, rfl⟩ := below_plus hb; clear hb)
          go_returns
          exact ⟨by rw [← Hst.out]; rfl, by repeat (first | exact Below.refl _ _ | refine bl_plus ?_ | refine bl_alloc ?_ _ | refine bl_drew ?_)⟩
      · simp only [replayFrom, if_neg hq] at hstep
        have hq2 : ((rbl == bl) = false) ∨ ((rbl == bl) = true ∧ (rno == no) = false) := by
          rw [← Hxb.out, ← Hxn.out]
          by_cases h1 : rbl = x.bl
          · exact .inr ⟨by simpa using h1, by simpa using fun h2 => hq ⟨h1, h2⟩⟩
          · exact .inl (by simpa using h1)
        have Hst := hide hstep
        clear hq hstep
        rcases hq2 with h1 | ⟨h1, h2⟩
        all_goals
          go_wp2
          go_roundw
          case rel => exact ⟨k + 1, x, _, _, hlt, by go_num, Hx.out, Hxb.out, Hxn.out, by have := Hst.out; simpa using this, by rw [plus_alloc]⟩
          case measure => simp [intOf]; omega
    · have hkl : k = rs.length := by omega
      have Hx := hide hx
      have Hrr := hide hrr
      clear hx hxb hxn hrr
      go_wp2
      go_returns
      exact ⟨by rw [← Hrr.out, hkl]; simp [replayFrom, St.val], by repeat (first | exact Below.refl _ _ | refine bl_plus ?_ | refine bl_alloc ?_ _ | refine bl_drew ?_)⟩

end Go.Proofs.Ytokghdcfbbogdaa
/-
  WALKS: Replay and the reference's, every input; the law StateReplays.
-/
namespace Go.Proofs.Ytokghdcfbbogdaa
open Go.RowKit

set_option maxHeartbeats 800000 in
set_option maxRecDepth 100000 in
theorem replay_new (bl no : Int) (A : Option Addr) (c : Nat) (rs : List Rv) (w : World) (hn : (St.new bl no).2 ≠ 0) :
    Calls Try.prog 13 #[.int .i64 bl, .int .i64 no, .slice A rs.length c] w fun e w' => e = .returned (.tuple #[(replay bl no rs).1.val, .int .i64 (replay bl no rs).2.1, .int .i64 (replay bl no rs).2.2]) ∧ Below w.heap.size w w' := by
  have hR : replay bl no rs = (St.zero, 0, (St.new bl no).2) := by unfold replay; rw [if_neg hn]
  rw [hR]
  have hnew := fun w => new_any bl no w
  rw [St.new_bad hn] at hnew
  generalize (St.new bl no).2 = r at hnew hn ⊢
  simp only [St.zero, St.val] at hnew ⊢
  have H := hide hnew
  clear hnew hR
  have hr0 : (r == 0) = false := by simp [hn]
  clear hn
  go_enter Try.func13, Try.ntmps13
  go_wp2_with (go_at_call 44; refine (H.out _).mono ?_; rintro e w' ⟨rfl, hb⟩; obtain ⟨os, n, rfl⟩ := below_plus hb; clear hb)
  go_returns
  exact ⟨rfl, by repeat (first | exact Below.refl _ _ | refine bl_plus ?_ | refine bl_alloc ?_ _ | refine bl_drew ?_)⟩

set_option maxHeartbeats 800000 in
set_option maxRecDepth 100000 in
theorem replay_long (bl no : Int) (A : Option Addr) (c : Nat) (rs : List Rv) (w : World) (hlen : 20000 < rs.length) (hn : (St.new bl no).2 = 0) :
    Calls Try.prog 13 #[.int .i64 bl, .int .i64 no, .slice A rs.length c] w fun e w' => e = .returned (.tuple #[(replay bl no rs).1.val, .int .i64 (replay bl no rs).2.1, .int .i64 (replay bl no rs).2.2]) ∧ Below w.heap.size w w' := by
  have hR : replay bl no rs = (St.zero, 0, 4) := by unfold replay; rw [if_pos hn, if_pos (by omega)]
  rw [hR]
  have hnew := fun w => new_any bl no w
  rw [(St.new_ok hn).1, hn] at hnew
  simp only [St.fresh, St.zero, St.val] at hnew ⊢
  have H := hide hnew
  clear hnew hR hn
  have hlen' : (20000 : Int) < (rs.length : Int) := by omega
  go_enter Try.func13, Try.ntmps13
  go_wp2_with (go_at_call 44; refine (H.out _).mono ?_; rintro e w' ⟨rfl, hb⟩; obtain ⟨os, n, rfl⟩ := below_plus hb; clear hb)
  go_returns
  exact ⟨rfl, by repeat (first | exact Below.refl _ _ | refine bl_plus ?_ | refine bl_alloc ?_ _ | refine bl_drew ?_)⟩

theorem replay_any (bl no : Int) (A : Option Addr) (c : Nat) (rs : List Rv) (w : World) (hA : RvsAt w A rs) :
    Calls Try.prog 13 #[.int .i64 bl, .int .i64 no, .slice A rs.length c] w fun e w' => e = .returned (.tuple #[(replay bl no rs).1.val, .int .i64 (replay bl no rs).2.1, .int .i64 (replay bl no rs).2.2]) ∧ Below w.heap.size w w' := by
  by_cases hn : (St.new bl no).2 = 0
  · by_cases hl : rs.length ≤ 20000
    · exact replay_run bl no A c rs w hA hl hn
    · exact replay_long bl no A c rs w (by omega) hn
  · exact replay_new bl no A c rs w hn

set_option maxHeartbeats 800000 in
set_option maxRecDepth 100000 in
theorem replayOf_new (bl no : Int) (A : Option Addr) (c : Nat) (rs : List Rv) (w : World) (hn : (St.new bl no).2 ≠ 0) :
    Calls Try.prog 14 #[.int .i64 bl, .int .i64 no, .slice A rs.length c] w fun e w' => e = .returned (.tuple #[(replay bl no rs).1.val, .int .i64 (replay bl no rs).2.1, .int .i64 (replay bl no rs).2.2]) ∧ Below w.heap.size w w' := by
  have hR : replay bl no rs = (St.zero, 0, (St.new bl no).2) := by unfold replay; rw [if_neg hn]
  rw [hR]
  have hnew := fun w => newOf_any bl no w
  rw [St.new_bad hn] at hnew
  generalize (St.new bl no).2 = r at hnew hn ⊢
  simp only [St.zero, St.val] at hnew ⊢
  have H := hide hnew
  clear hnew hR
  have hr0 : (r == 0) = false := by simp [hn]
  clear hn
  go_enter Try.func14, Try.ntmps14
  go_wp2_with (go_at_call 57; refine (H.out _).mono ?_; rintro e w' ⟨rfl, hb⟩; obtain ⟨os, n, rfl⟩ := below_plus hb; clear hb)
  go_returns
  exact ⟨rfl, by repeat (first | exact Below.refl _ _ | refine bl_plus ?_ | refine bl_alloc ?_ _ | refine bl_drew ?_)⟩

set_option maxHeartbeats 800000 in
set_option maxRecDepth 100000 in
theorem replayOf_long (bl no : Int) (A : Option Addr) (c : Nat) (rs : List Rv) (w : World) (hlen : 20000 < rs.length) (hn : (St.new bl no).2 = 0) :
    Calls Try.prog 14 #[.int .i64 bl, .int .i64 no, .slice A rs.length c] w fun e w' => e = .returned (.tuple #[(replay bl no rs).1.val, .int .i64 (replay bl no rs).2.1, .int .i64 (replay bl no rs).2.2]) ∧ Below w.heap.size w w' := by
  have hR : replay bl no rs = (St.zero, 0, 4) := by unfold replay; rw [if_pos hn, if_pos (by omega)]
  rw [hR]
  have hnew := fun w => newOf_any bl no w
  rw [(St.new_ok hn).1, hn] at hnew
  simp only [St.fresh, St.zero, St.val] at hnew ⊢
  have H := hide hnew
  clear hnew hR hn
  have hlen' : (20000 : Int) < (rs.length : Int) := by omega
  go_enter Try.func14, Try.ntmps14
  go_wp2_with (go_at_call 57; refine (H.out _).mono ?_; rintro e w' ⟨rfl, hb⟩; obtain ⟨os, n, rfl⟩ := below_plus hb; clear hb)
  go_returns
  exact ⟨rfl, by repeat (first | exact Below.refl _ _ | refine bl_plus ?_ | refine bl_alloc ?_ _ | refine bl_drew ?_)⟩

theorem replayOf_any (bl no : Int) (A : Option Addr) (c : Nat) (rs : List Rv) (w : World) (hA : RvsAt w A rs) :
    Calls Try.prog 14 #[.int .i64 bl, .int .i64 no, .slice A rs.length c] w fun e w' => e = .returned (.tuple #[(replay bl no rs).1.val, .int .i64 (replay bl no rs).2.1, .int .i64 (replay bl no rs).2.2]) ∧ Below w.heap.size w w' := by
  by_cases hn : (St.new bl no).2 = 0
  · by_cases hl : rs.length ≤ 20000
    · exact replayOf_run bl no A c rs w hA hl hn
    · exact replayOf_long bl no A c rs w (by omega) hn
  · exact replayOf_new bl no A c rs w hn

theorem RvsAt.plus {w : World} {A : Option Addr} {rs : List Rv} (h : RvsAt w A rs) (os : Array Obj) (n : Nat) : RvsAt (plus w os n) A rs := by
  intro hl
  obtain ⟨b, off, hA, hb, hc⟩ := h hl
  refine ⟨b, off, hA, by rw [plus_size]; omega, fun j hj => ?_⟩
  rw [plus_cell hb, plus_cell hb, plus_cell hb, plus_cell hb]
  exact hc j hj
theorem RvsAt.alloc {w : World} {A : Option Addr} {rs : List Rv} (h : RvsAt w A rs) (o : Obj) : RvsAt (w.alloc o) A rs := by
  intro hl
  obtain ⟨b, off, hA, hb, hc⟩ := h hl
  refine ⟨b, off, hA, by rw [World.size_alloc]; omega, fun j hj => ?_⟩
  rw [World.cell?_alloc_past _ _ _ hb, World.cell?_alloc_past _ _ _ hb, World.cell?_alloc_past _ _ _ hb, World.cell?_alloc_past _ _ _ hb]
  exact hc j hj

theorem run_eql_st (x : St) (w : World) : (binOp .eql 24 x.val x.val).run Try.prog w = .ok (.bool true) w := by
  obtain ⟨bl, no, st, ea, du, la, ti, lp, bu⟩ := x
  unfold St.val
  simp [go_sem]

set_option maxHeartbeats 800000 in
set_option maxRecDepth 100000 in
theorem stateReplays_any (bl no : Int) (A : Option Addr) (c : Nat) (rs : List Rv) (w : World) (hA : RvsAt w A rs) :
    Calls Try.prog 3 #[.int .i64 bl, .int .i64 no, .slice A rs.length c] w fun e w' => e = .returned (.bool true) ∧ Below w.heap.size w w' := by
  have h1 := fun w h => replay_any bl no A c rs w h
  have h2 := fun w h => replayOf_any bl no A c rs w h
  generalize replay bl no rs = p at h1 h2
  obtain ⟨x, i, r⟩ := p
  simp only [St.val] at h1 h2
  have H1 := hide h1
  have H2 := hide h2
  have HA := hide hA
  clear h1 h2 hA
  go_enter Try.func3, Try.ntmps3
  go_wp2_with (first | (go_at_call 13; refine (H1.out _ HA.out).mono ?_; rintro e w' ⟨rfl, hb⟩; obtain ⟨os, n, rfl⟩ := below_plus hb; clear hb) | (go_at_call 14; refine (H2.out _ ((HA.out.plus _ _).alloc _)).mono ?_; rintro e w' ⟨rfl, hb⟩; obtain ⟨os, n, rfl⟩ := below_plus hb; clear hb))
  go_ret
  exact ⟨rfl, by repeat (first | exact Below.refl _ _ | refine bl_plus ?_ | refine bl_alloc ?_ _ | refine bl_drew ?_)⟩

end Go.Proofs.Ytokghdcfbbogdaa
