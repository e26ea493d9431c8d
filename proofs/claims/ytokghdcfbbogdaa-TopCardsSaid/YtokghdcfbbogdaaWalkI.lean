/-
  WALKS: the reference's Replay.
-/
import Derived.Test.YtokghdcfbbogdaaWalkH
namespace Go.Proofs.Ytokghdcfbbogdaa
open Go.RowKit

set_option maxHeartbeats 2000000 in
set_option maxRecDepth 100000 in
theorem replayOf_run (bl no : Int) (A : Option Addr) (c : Nat) (rs : List Rv) (w : World) (hA : RvsAt w A rs) (hlen : rs.length ≤ 20000) (hn : (St.new bl no).2 = 0) :
    Calls Try.prog 14 #[.int .i64 bl, .int .i64 no, .slice A rs.length c] w fun e w' => e = .returned (.tuple #[(replay bl no rs).1.val, .int .i64 (replay bl no rs).2.1, .int .i64 (replay bl no rs).2.2]) ∧ Below w.heap.size w w' := by
  have hR : replay bl no rs = replayFrom (St.fresh bl no) 0 rs := by
    unfold replay; rw [if_pos hn, if_neg (by omega), (St.new_ok hn).1]
  rw [hR]
  have hnew := fun w => newOf_any bl no w
  rw [(St.new_ok hn).1, hn] at hnew
  have hfr := (St.new_ok hn).2
  simp only [St.fresh, St.val] at hnew
  have H := hide hnew
  clear hnew
  generalize hRR : replayFrom (St.fresh bl no) 0 rs = RR
  have HR := hide hRR
  have HA := hide hA
  have HF := hide hfr
  clear hRR hA hR hn hfr
  have hlen' : ¬ (20000 : Int) < (rs.length : Int) := by omega
  go_enter Try.func14, Try.ntmps14
  go_wp2_with (go_at_call 57; refine (H.out _).mono ?_; rintro e w' ⟨rfl, hb⟩; obtain ⟨os, n, rfl⟩ := below_plus hb; clear hb)
  go_loopw [29] (fun i wr => ∃ (k : Nat) (x : St) (os' : Array Obj) (n' : Nat), k ≤ rs.length ∧ i = .int .i64 k ∧ x.err = 0 ∧ x.bl = bl ∧ x.no = no ∧
      replayFrom x k (rs.drop k) = RR ∧
      wr = plus ((plus (w.alloc (.cells #[.int .i64 0, .int .i64 0, .int .i64 0, .int .i64 0, .int .i64 0, .int .i64 0, .int .i64 0, .int .i64 0, .int .i64 0] 24)) os n).alloc
        (.cells #[.int .i64 x.bl, .int .i64 x.no, .int .i64 x.st, .int .i64 x.ea, .int .i64 x.du, .int .i64 x.la, .int .i64 x.ti, .int .i64 x.lp, .int .i64 x.bu] 24)) os' n')
    (fun i _ => rs.length - (intOf i).toNat)
  case atStart => exact ⟨0, St.fresh bl no, #[], _, Nat.zero_le _, rfl, HF.out, rfl, rfl, HR.out, plus_nil.symm⟩
  case round =>
    obtain ⟨k, x, os', n', hk, rfl, hx, hxb, hxn, hrr, rfl⟩ := hrel
    by_cases hlt : k < rs.length
    · obtain ⟨b, off, rfl, hb, hcell⟩ := HA.out (by omega)
      obtain ⟨c0, c1, c2, c3⟩ := hcell k hlt
      obtain ⟨r, hr⟩ : ∃ r, rs[k] = r := ⟨_, rfl⟩
      rw [hr] at c0 c1 c2 c3
      clear hcell
      obtain ⟨rbl, rno, rgr, rda⟩ := r
      simp only at c0 c1 c2 c3
      have Hr := hide hr
      have Hx := hide hx
      have Hxb := hide hxb
      have Hxn := hide hxn
      have Hrr := hide hrr
      clear hr hx hxb hxn hrr
      have hstep := Hrr.out
      rw [drop_cons rs k hlt, Hr.out] at hstep
      by_cases hq : rbl = x.bl ∧ rno = x.no
      · have h1 : (rbl == bl) = true := by rw [← Hxb.out]; simp [hq.1]
        have h2 : (rno == no) = true := by rw [← Hxn.out]; simp [hq.2]
        simp only [replayFrom, if_pos hq] at hstep
        clear hq
        have hcg := fun w => gradeOf_any x rgr rda w
        have hge1 := Hx.out
        by_cases hge : gradeErr x rgr rda = 0
        · have hgg : x.grade rgr rda = (x.graded rgr rda, 0) := by simp [St.grade, hge1, hge]
          rw [if_pos hge] at hstep
          rw [hgg] at hcg
          have hye := St.err_graded hge1 hge
          have hyb : (x.graded rgr rda).bl = bl := Hxb.out
          have hyn : (x.graded rgr rda).no = no := Hxn.out
          generalize x.graded rgr rda = y at hcg hstep hye hyb hyn
          simp only [St.val] at hcg
          have Hcg := hide hcg
          have Hst := hide hstep
          have Hye := hide hye
          have Hyb := hide hyb
          have Hyn := hide hyn
          clear hcg hstep hye hyb hyn hge hge1 hgg
          go_wp2_with (go_at_call 16; refine (Hcg.out _).mono ?_; rintro e w' ⟨rfl, hb⟩; obtain ⟨os3, n3, rfl⟩ := below_plus hb; clear hb)
          go_roundw
          case rel => exact ⟨k + 1, y, _, _, hlt, by go_num, Hye.out, Hyb.out, Hyn.out, by have := Hst.out; simpa using this, by rw [plus_alloc, plus_plus]⟩
          case measure => simp [intOf]; omega
        · have hgg : x.grade rgr rda = (St.zero, gradeErr x rgr rda) := by simp [St.grade, hge1, hge]
          rw [if_neg hge] at hstep
          rw [hgg] at hcg
          generalize gradeErr x rgr rda = r at hcg hstep hge
          simp only [St.zero, St.val] at hcg
          have hr0 : (r == 0) = false := by simp [hge]
          have Hcg := hide hcg
          have Hst := hide hstep
          clear hcg hstep hge hge1 hgg
          go_wp2_with (go_at_call 16; refine (Hcg.out _).mono ?_; rintro e w' ⟨rfl, hb⟩; obtain ⟨os3, n3, rfl⟩ := below_plus hb; clear hb)
          go_returns
          exact ⟨by rw [← Hst.out]; rfl, by repeat (first | exact Below.refl _ _ | refine bl_plus ?_ | refine bl_alloc ?_ _ | refine bl_drew ?_)⟩
      · simp only [replayFrom, if_neg hq] at hstep
        have hq2 : ((rbl == bl) = false) ∨ ((rbl == bl) = true ∧ (rno == no) = false) := by
          rw [← Hxb.out, ← Hxn.out]
          by_cases h1 : rbl = x.bl
          · exact .inr ⟨by simpa using h1, by simpa using fun h2 => hq ⟨h1, h2⟩⟩
          · exact .inl (by simpa using h1)
        have Hst := hide hstep
        clear hq hstep
        rcases hq2 with h1 | ⟨h1, h2⟩
        all_goals
          go_wp2
          go_roundw
          case rel => exact ⟨k + 1, x, _, _, hlt, by go_num, Hx.out, Hxb.out, Hxn.out, by have := Hst.out; simpa using this, by rw [plus_alloc]⟩
          case measure => simp [intOf]; omega
    · have hkl : k = rs.length := by omega
      have Hx := hide hx
      have Hrr := hide hrr
      clear hx hxb hxn hrr
      go_wp2
      go_returns
      exact ⟨by rw [← Hrr.out, hkl]; simp [replayFrom, St.val], by repeat (first | exact Below.refl _ _ | refine bl_plus ?_ | refine bl_alloc ?_ _ | refine bl_drew ?_)⟩

end Go.Proofs.Ytokghdcfbbogdaa
