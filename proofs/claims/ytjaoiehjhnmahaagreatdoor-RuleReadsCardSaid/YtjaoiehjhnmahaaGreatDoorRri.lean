/-
  WALK: what is after on, in the reference.
-/
import Derived.Test.YtjaoiehjhnmahaaGreatDoorRrh
import Derived.Deep.QuietTactic
import Derived.BigQuiet
set_option linter.all false
namespace Go.Proofs.YtjaoiehjhnmahaaGreatDoor
open Go.RowKit

/-- A variable that reads as a row of strings. -/
structure StrsTab (w : World) (gv b o c : Nat) (xs : List ByteArray) : Prop where
  top : w.cell? ⟨gv, 0, none⟩ = some (.slice (some ⟨b, o, none⟩) xs.length c)
  glt : gv < w.heap.size
  lt : b < w.heap.size
  at_ : ∀ k (h : k < xs.length), w.cell? ⟨b, o + k, none⟩ = some (.string xs[k])
theorem StrsTab.below {w w' : World} {gv b o c : Nat} {xs : List ByteArray} (h : StrsTab w gv b o c xs) (hb : Below w.heap.size w w') : StrsTab w' gv b o c xs :=
  ⟨(hb.cell (p := ⟨gv, 0, none⟩) h.glt).trans h.top, Nat.lt_of_lt_of_le h.glt hb.size, Nat.lt_of_lt_of_le h.lt hb.size, fun k hk => (hb.cell (p := ⟨b, o + k, none⟩) h.lt).trans (h.at_ k hk)⟩
theorem RLwd.trn0 {w0 W w : World} {p : Nat} {R : List ByteArray} {f : Bool} {r : Rul} {done : List Int} {A : Option Addr} {c : Nat} (h : RLwd w0 W w p R f r done A c) : Trn p w0 w :=
  ⟨h.two.os.trans h.trn.os, h.two.tape.trans h.trn.tape, h.two.output.trans h.trn.output, Nat.le_trans h.trn.size h.two.size, fun b hb hn => (h.two.same b (Nat.lt_of_lt_of_le hb h.trn.size) hn (by omega)).trans (h.trn.same b hb hn)⟩
theorem goes_thR {O : Option Rul} {b : Bool} {L : List ByteArray} {r : Rul} (h : Goes O b (P5a L r)) : (thB L = true → Goes O b (match rdO nth L with | some k => P5b L.tail { r with n := k } | none => none)) ∧ (thB L = false → Goes O b (P5b L r)) := by
  unfold P5a at h
  refine ⟨fun e => ?_, fun e => ?_⟩
  · rw [if_pos e] at h; exact h
  · rw [if_neg (by rw [e]; decide)] at h; exact h
theorem nth_casesR (x : ByteArray) : (nm (cutS x wTh) = none ∧ nth x = none) ∨ (nm (cutS x wTh) = some 0 ∧ nth x = none) ∨ ∃ v, v ≠ 0 ∧ nm (cutS x wTh) = some v ∧ nth x = some v := by
  unfold nth
  cases nm (cutS x wTh) with
  | none => exact .inl ⟨rfl, rfl⟩
  | some v =>
    by_cases hv : v = 0
    · subst hv; exact .inr (.inl ⟨rfl, rfl⟩)
    · exact .inr (.inr ⟨v, hv, rfl, if_neg hv⟩)
theorem goes_optR {O : Option Rul} {b : Bool} {s : ByteArray} {L : List ByteArray} {P Q : List ByteArray → Option Rul} (h : Goes O b (if tkB s L = true then P L.tail else Q L)) : (tkB s L = true → Goes O b (P (tkL s L))) ∧ (tkB s L = false → Goes O b (Q (tkL s L))) := by
  refine ⟨fun e => ?_, fun e => ?_⟩
  · unfold tkL
    rw [e] at h ⊢
    exact h
  · unfold tkL
    rw [e] at h ⊢
    exact h
theorem goes_none {O : Option Rul} {b : Bool} {q : Option Rul} (h : Goes O b none) : Goes O true q := by
  unfold Goes at *
  cases b <;> exact h
theorem goes_doneN {O : Option Rul} {b : Bool} {done : List Int} {p q : Option Rul} (h : Goes O b (if done = [] then none else p)) (hd : done = []) : Goes O true q := goes_none (by rwa [if_pos hd] at h)
theorem goes_doneY {O : Option Rul} {b : Bool} {done : List Int} {p : Option Rul} (h : Goes O b (if done = [] then none else p)) (hd : done ≠ []) : Goes O b p := by rwa [if_neg hd] at h
theorem thB_nil {L : List ByteArray} (h : L = []) : thB L = false := by subst h; rfl
theorem containsS_wk (x : ByteArray) : Lib.containsS wdaysL x = (wk x).isSome ∧ ∀ v, wk x = some v → Lib.idxOfS wdaysL x = v := by
  unfold wk at1 Lib.containsS
  by_cases h : Lib.idxOfS wdaysL x < 0
  · rw [if_pos h, decide_eq_false (by omega)]
    exact ⟨rfl, fun v hv => by cases hv⟩
  · rw [if_neg h, decide_eq_true (by omega)]
    exact ⟨rfl, fun v hv => by cases hv; rfl⟩

set_option maxHeartbeats 6400000 in
set_option maxRecDepth 100000 in
theorem weekdays_any (w0 W : World) (p : Nat) (L : List ByteArray) (f : Bool) (r : Rul) (O : Option Rul) (h : RR w0 W p L f r) (hwd : r.wd = []) (hg : Goes O (!f) (P5a L r)) (bs os' cs : Nat) (hS : ∀ w', Trn p w0 w' → StrsTab w' 1 bs os' cs wdaysL) (PO : Ending → World → Prop)
    (hPO : ∀ (w' : World) (L' : List ByteArray) (f' : Bool) (r' : Rul), RR w0 w' p L' f' r' → Goes O (!f') (P6 L' r') → r'.da = r.da → r'.sk = r.sk → PO (.returned (.tuple #[])) w') :
    Calls Tryz.prog 33 #[.pointer (some ⟨p, 0, none⟩), .pointer (some ⟨w0.heap.size, 0, none⟩)] W PO := by
  have HPO := hide hPO
  have HS := hide hS
  have h0 := hide h
  have HTB := hide (goes_thR hg)
  have hpw : p < w0.heap.size := h.hp
  have hpg : ¬ p = w0.heap.size := by omega
  have hpg2 : ¬ w0.heap.size = p := by omega
  clear h hPO hS hg
  go_enter Tryz.func33, Tryz.ntmps33
  go_upto_region 0 with fail
  go_cut [14] from 9 to 14 (fun s wx => s = .bool (!L.isEmpty) ∧ W = wx)
  case first =>
    obtain ⟨⟨b, o, c, k1, k2, k3, k4, k5, k6⟩, k7, k8, k9⟩ := h0.out.rd
    have c0 : W.cell? ⟨p, 0, none⟩ = some (.slice (some ⟨b, o, none⟩) L.length c) := k1.cell 0
    cases L with
    | nil =>
      have c0' : W.cell? ⟨p, 0, none⟩ = some (.slice (some ⟨b, o, none⟩) 0 c) := c0
      clear c0 k1 k2 k3 k4 k5 k6 k7 k8 k9
      go_wp2
      go_meet
      exact ⟨rfl, rfl⟩
    | cons x r =>
      have c0' : W.cell? ⟨p, 0, none⟩ = some (.slice (some ⟨b, o, none⟩) (r.length + 1) c) := c0
      clear c0 k1 k2 k3 k4 k5 k6 k7 k8 k9
      go_wp2
      go_meet
      exact ⟨rfl, rfl⟩
  case rest =>
    obtain ⟨rfl, rfl⟩ := hcut
    go_upto_if 14 with fail
    go_cut [] from 16 to 56 (fun wx => ∃ (Wx : World) (L : List ByteArray) (f : Bool) (r' : Rul), Wx = wx ∧ Hid (RR w0 Wx p L f r') ∧ Hid (Goes O (!f) (P5b L r')) ∧ r'.wd = r.wd ∧ r'.da = r.da ∧ r'.sk = r.sk)
    case first =>
      obtain ⟨a1, a2, a3, a4, a5, a6, a7, a8, a9, a10, a11, a12⟩ := h0.out.at_
      obtain ⟨⟨b, o, c, k1, k2, k3, k4, k5, k6⟩, k7, k8, k9⟩ := h0.out.rd
      have c0 : W.cell? ⟨p, 0, none⟩ = some (.slice (some ⟨b, o, none⟩) L.length c) := k1.cell 0
      cases L with
      | nil =>
        go_wp2
        go_meet
        exact ⟨_, [], f, r, rfl, h0, hide (HTB.out.2 rfl), rfl, rfl, rfl⟩
      | cons x t =>
        have c0' : W.cell? ⟨p, 0, none⟩ = some (.slice (some ⟨b, o, none⟩) (t.length + 1) c) := c0
        have d0 : W.cell? ⟨b, o, none⟩ = some (.string x) := k6 0 (by simp)
        have hbb : b < W.heap.size := by omega
        have hl2 : t.length + 1 ≤ c := k4
        have hx := k9 x (by simp)
        have HC := hide (fun W => Tryz.cutSuffix_any x ⟨#[116, 104]⟩ W (by omega))
        rw [show (Lib.hasSuffix x.data.toList (⟨#[116, 104]⟩ : ByteArray).data.toList) = hasS x wTh from rfl, show (⟨(Lib.trimSuffix x.data.toList (⟨#[116, 104]⟩ : ByteArray).data.toList).toArray⟩ : ByteArray) = cutS x wTh from rfl] at HC
        have HDG := hide (fun W => digits_any (cutS x wTh) W)
        have HTB' : Hid ((hasS x wTh = true → Goes O (!f) (match nth x with | some k => P5b t { r with n := k } | none => none)) ∧ (hasS x wTh = false → Goes O (!f) (P5b (x :: t) r))) := HTB
        have hnc := nth_casesR x
        clear HTB c0
        generalize nth x = NO at *
        generalize hasS x wTh = bt at *
        generalize cutS x wTh = X at *
        have NP := hide (fun (fl : Bool) (k : Int) (os2 : Array Obj) (n2 : Nat) => (RR.plus (RR.call ((h0.out.flag fl).set_n k) (Rd.next (((k1.set_ 1 (.bool fl)).far (by simp only; omega) (.int .i64 k))) k2 k3 k4 k5 (fun j hj => (World.cell?_of_block ((Below.heap_setCell _ _ _ b (by simp only; omega)).trans (Below.heap_setCell W _ _ b (by simp only; omega)))).trans (k6 j hj)) k7 ((h0.out.flag fl).set_n k).rd.le k9) (Trn.set _ _)) os2 n2))
        have NQ := hide (fun (fl : Bool) (k : Int) (os2 : Array Obj) (n2 : Nat) (hc1 : c = 1) => (RR.plus (RR.call ((h0.out.flag fl).set_n k) (Rd.next0 (x := x) (((k1.set_ 1 (.bool fl)).far (by simp only; omega) (.int .i64 k))) k2 k3 (by omega) k7 ((h0.out.flag fl).set_n k).rd.le k9) (Trn.set _ _)) os2 n2))
        clear k1 k2 k3 k4 k5 k6 k7 k8 k9
        cases bt
        · go_wp2_with (go_at_call 108; with_reducible refine (HC.out _).mono ?_; rintro e w' ⟨rfl, rfl⟩)
          go_meet
          exact ⟨_, x :: t, f, r, rfl, h0, hide (HTB'.out.2 (by trivial)), rfl, rfl, rfl⟩
        · have GT := hide (HTB'.out.1 (by trivial))
          clear HTB'
          rcases hnc with ⟨hn, rfl⟩ | ⟨hn, rfl⟩ | ⟨v, hv, hn, rfl⟩
          · have HN2 := hide (show num X.data.toList = none from hn)
            clear hn
            cases f
            all_goals
              go_wp2_with (first | (go_at_call 108; with_reducible refine (HC.out _).mono ?_; rintro e w' ⟨rfl, rfl⟩) | (go_at_call 106; with_reducible refine (HDG.out _).mono ?_; intro e w' hno; obtain ⟨kv, rfl, hbl⟩ := hno.no HN2.out; obtain ⟨os2, n2, rfl⟩ := below_plus hbl; clear hbl hno))
              all_goals
                go_meet
                exact ⟨_, t, false, { r with n := kv }, rfl, hide (by first | exact NP.out false kv os2 n2 | exact NQ.out false kv os2 n2 (by omega)), hide (goes_none GT.out), rfl, rfl, rfl⟩
          · have HN2 := hide (show num X.data.toList = some 0 from hn)
            clear hn
            cases f
            all_goals
              go_wp2_with (first | (go_at_call 108; with_reducible refine (HC.out _).mono ?_; rintro e w' ⟨rfl, rfl⟩) | (go_at_call 106; with_reducible refine (HDG.out _).mono ?_; intro e w' hno; obtain ⟨rfl, hbl⟩ := hno.yes HN2.out; obtain ⟨os2, n2, rfl⟩ := below_plus hbl; clear hbl hno))
              all_goals
                go_meet
                exact ⟨_, t, false, { r with n := 0 }, rfl, hide (by first | exact NP.out false 0 os2 n2 | exact NQ.out false 0 os2 n2 (by omega)), hide (goes_none GT.out), rfl, rfl, rfl⟩
          · have HN2 := hide (show num X.data.toList = some v from hn)
            have hv1 : (v != 0) = true := bne_iff_ne.2 hv
            clear hn
            cases f
            · go_wp2_with (first | (go_at_call 108; with_reducible refine (HC.out _).mono ?_; rintro e w' ⟨rfl, rfl⟩) | (go_at_call 106; with_reducible refine (HDG.out _).mono ?_; intro e w' hno; obtain ⟨rfl, hbl⟩ := hno.yes HN2.out; obtain ⟨os2, n2, rfl⟩ := below_plus hbl; clear hbl hno))
              all_goals
                go_meet
                exact ⟨_, t, false, { r with n := v }, rfl, hide (by first | exact NP.out false v os2 n2 | exact NQ.out false v os2 n2 (by omega)), hide (Goes.bad GT.out), rfl, rfl, rfl⟩
            · go_wp2_with (first | (go_at_call 108; with_reducible refine (HC.out _).mono ?_; rintro e w' ⟨rfl, rfl⟩) | (go_at_call 106; with_reducible refine (HDG.out _).mono ?_; intro e w' hno; obtain ⟨rfl, hbl⟩ := hno.yes HN2.out; obtain ⟨os2, n2, rfl⟩ := below_plus hbl; clear hbl hno))
              all_goals
                go_meet
                exact ⟨_, t, true, { r with n := v }, rfl, hide (by first | exact NP.out true v os2 n2 | exact NQ.out true v os2 n2 (by omega)), GT, rfl, rfl, rfl⟩
    case rest =>
      clear HTB
      obtain ⟨W1, L1, f1, r1, rfl, R1, G1, e1, e2, e3⟩ := hcut
      have hw1 : r1.wd = [] := e1.trans hwd
      have RL0 := hide (RLwd.start R1.out hw1)
      clear h0
      have hlen := R1.out.len
      have hda1 : r1.da = r.da := e2
      have hsk1 : r1.sk = r.sk := e3
      obtain ⟨i0, hi, hz0, hz1, hz2⟩ := info_parts info_int
      have HI := hide (⟨hi, hz0, hz1, hz2⟩ : _ ∧ _ ∧ _ ∧ _)
      clear hi hz0 hz1 hz2 e1 e2 e3 R1
      go_wp2
      go_loopw [8] (fun v wr => ∃ (done : List Int) (R : List ByteArray) (A : Option Addr) (c : Nat), v = .int .i64 done.length ∧ Hid (spn wk L1 = (done ++ (spn wk R).1, (spn wk R).2)) ∧ Hid (RLwd w0 W1 wr p R f1 r1 done A c) ∧ done.length + R.length = L1.length) (fun v _ => L1.length - (intOf v).toNat)
      case atStart => exact ⟨[], L1, none, 0, rfl, hide (by simp), RL0, by simp⟩
      case round =>
        clear RL0
        obtain ⟨done, R, A, c, rfl, HSP, RL, hsum⟩ := hrel
        go_wp2_with fail
        go_cut [72] from 57 to 72 (fun s wx => s = .bool (rdO wk R).isSome ∧ ∃ os n, wx = plus wr os n)
        case first =>
          obtain ⟨a1, a2, a3, a4, a5, a6, a7, a8⟩ := RL.out.at_
          have ST := hide (HS.out _ RL.out.trn0)
          have g1 := ST.out.top
          have g2 := ST.out.glt
          rw [show wdaysL.length = 7 from rfl] at g1
          obtain ⟨⟨b, o, q, k1, k2, k3, k4, k5, k6⟩, k7, k8, k9⟩ := RL.out.rd
          have hbb : b < wr.heap.size := by omega
          have c0 : wr.cell? ⟨p, 0, none⟩ = some (.slice (some ⟨b, o, none⟩) R.length q) := k1.cell 0
          cases R with
          | nil =>
            have c0' : wr.cell? ⟨p, 0, none⟩ = some (.slice (some ⟨b, o, none⟩) 0 q) := c0
            clear c0 k1 k2 k3 k4 k5 k6 k7 k8 k9 HSP RL
            go_quiet (fail)
            go_wp2_with fail
            go_meet
            exact ⟨rfl, below_plus (by repeat (first | exact Below.refl _ _ | with_reducible refine bl_plus ?_ | with_reducible refine bl_alloc ?_ _ | with_reducible refine bl_drew ?_ | with_reducible refine bl_drewN ?_ _))⟩
          | cons x t =>
            have c0' : wr.cell? ⟨p, 0, none⟩ = some (.slice (some ⟨b, o, none⟩) (t.length + 1) q) := c0
            have d0 : wr.cell? ⟨b, o, none⟩ = some (.string x) := k6 0 (by simp)
            obtain ⟨hcw, hci⟩ := containsS_wk x
            have HCN := hide (fun W' (hb : Below wr.heap.size wr W') => Tryz.containsS_any bs os' cs wdaysL x W' (by decide) (ST.out.below hb).at_)
            rw [hcw, show wdaysL.length = 7 from rfl] at HCN
            clear c0 k1 k2 k3 k4 k5 k6 k7 k8 k9 hcw hci HSP RL
            generalize hwb : (wk x).isSome = wb at *
            have HWB := hide hwb
            clear hwb
            go_region_with (go_at_call 109; refine (HCN.out _ ?hb).mono ?_; (case hb => exact (by repeat (first | exact Below.refl _ _ | with_reducible refine bl_plus ?_ | with_reducible refine bl_alloc ?_ _ | with_reducible refine bl_drew ?_ | with_reducible refine bl_drewN ?_ _))); rintro e w' ⟨rfl, rfl⟩)
            all_goals
              go_wp2_with fail
              go_meet
              exact ⟨by rw [show (rdO wk (x :: t)).isSome = wb from HWB.out], below_plus (by repeat (first | exact Below.refl _ _ | with_reducible refine bl_plus ?_ | with_reducible refine bl_alloc ?_ _ | with_reducible refine bl_drew ?_ | with_reducible refine bl_drewN ?_ _))⟩
        case rest =>
          obtain ⟨rfl, osx, nx, rfl⟩ := hcut
          have RLx := hide (RL.out.call (RL.out.rd.below_ (bl_plus (Below.refl _ _))) (Trn.of_below (bl_plus (Below.refl _ _))) : RLwd w0 W1 (plus wr osx nx) p R f1 r1 done A c)
          clear RL
          generalize plus wr osx nx = wr' at *
          have RL := RLx
          clear RLx
          obtain ⟨a1, a2, a3, a4, a5, a6, a7, a8⟩ := RL.out.at_
          have ST := hide (HS.out _ RL.out.trn0)
          have g1 := ST.out.top
          have g2 := ST.out.glt
          rw [show wdaysL.length = 7 from rfl] at g1
          rcases hro : rdO wk R with _ | v
          · have FIN := hide (RL.out.fin (by omega))
            have hsp0 : spn wk R = ([], R) := by
              cases R with
              | nil => rfl
              | cons x t => have hw : wk x = none := hro; simp [spn, hw]
            have GE : Hid (Goes O (!f1) (if done = [] then none else P6 R { r1 with wd := done })) := hide (by have h2 := G1.out; unfold P5b at h2; rw [HSP.out, hsp0] at h2; simpa using h2)
            have GN : Hid (done = [] → ∀ q, Goes O true q) := hide (fun hd q => goes_doneN GE.out hd)
            have GY : Hid (done ≠ [] → Goes O (!f1) (P6 R { r1 with wd := done })) := hide (fun hd => goes_doneY GE.out hd)
            clear hsp0 HSP RL hro GE
            cases f1 <;> rcases Nat.eq_zero_or_pos done.length with hz | hz
            · obtain rfl : done = [] := List.length_eq_zero_iff.1 hz
              go_wp2
              go_returns
              exact HPO.out _ R false _ (FIN.out.flag false) (GN.out (by trivial) _) hda1 hsk1
            · go_wp2
              go_returns
              exact HPO.out _ R false _ (FIN.out.flag false) (GY.out (fun e => by rw [e] at hz; simp at hz)) hda1 hsk1
            · obtain rfl : done = [] := List.length_eq_zero_iff.1 hz
              go_wp2
              go_returns
              exact HPO.out _ R false _ (FIN.out.flag false) (GN.out (by trivial) _) hda1 hsk1
            · go_wp2
              go_returns
              exact HPO.out _ R true _ (FIN.out.flag true) (GY.out (fun e => by rw [e] at hz; simp at hz)) hda1 hsk1
          · cases R with
            | nil => cases hro
            | cons x t =>
              have hw : wk x = some v := hro
              obtain ⟨⟨b, o, q, k1, k2, k3, k4, k5, k6⟩, k7, k8, k9⟩ := RL.out.rd
              have hbb : b < wr'.heap.size := by omega
              have c0' : wr'.cell? ⟨p, 0, none⟩ = some (.slice (some ⟨b, o, none⟩) (t.length + 1) q) := k1.cell 0
              have d0 : wr'.cell? ⟨b, o, none⟩ = some (.string x) := k6 0 (by simp)
              have HBIG := hide (show (done.length + 1) * i0.bytes ≤ 140737488355328 ∧ done.length + 1 ≤ 140737488355328 by have := HI.out.2.2.2; rw [this]; omega)
              obtain ⟨hcw, hci⟩ := containsS_wk x
              have HIX := hide (fun W' (hb : Below wr'.heap.size wr' W') => Tryz.indexS_any bs os' cs wdaysL x W' (by decide) (ST.out.below hb).at_)
              rw [show wdaysL.length = 7 from rfl, hci v hw] at HIX
              have HS2 := hide (show spn wk L1 = ((done ++ [v]) ++ (spn wk t).1, (spn wk t).2) by rw [HSP.out]; simp [spn, hw])
              clear k1 k2 k3 k4 k5 k6 k7 k8 k9 hcw hw hci HSP hro
              go_wp2_with fail
              go_cut [] from 73 to 89 (fun wx => ∃ (w1 : World) (A3 : Option Addr) (c3 : Nat), w1 = wx ∧ Hid (RLwd w0 W1 w1 p (x :: t) f1 r1 (done ++ [v]) A3 c3))
              case first =>
                go_region_law (first | ((refine step_append_b rfl (.tmp 77) (.tmp 86) rfl rfl Tryz.underlying30 HI.out.1 HI.out.2.1 HI.out.2.2.1 (by decide) rfl (by have := HI.out.2.2.2; omega) W1.heap.size done.length (.slice A done.length c) (done.map (Value.int .i64)) [.int .i64 v] _ rfl (by repeat (first | with_reducible exact RL.out.own | with_reducible refine ownK_alloc ?_ _ | with_reducible refine ownK_plus ?_ _ _ | with_reducible refine ownK_drew ?_ | with_reducible refine ownK_drewN ?_ _)) rfl (by intro u hu; simp only [List.mem_cons, List.not_mem_nil, or_false] at hu; rcases hu with rfl; rfl) rfl (newN_cells (cs := [.int .i64 v]) (by simp only [World.size_alloc, plus_size, World.drew])) HBIG.out (by simp only [World.size_alloc, plus_size, World.drew]; omega) ?_); (intro v' w1 hown1 hgr1 hfr1); (obtain ⟨A3, c3, rfl, _⟩ := ownK_form hown1); (have hb1 : Below W1.heap.size wr' w1 := (Below.mono (by repeat (first | exact Below.refl _ _ | with_reducible refine bl_plus ?_ | with_reducible refine bl_alloc ?_ _ | with_reducible refine bl_drew ?_ | with_reducible refine bl_drewN ?_ _)) a8).grown hgr1 (by simp only [World.size_alloc, plus_size, World.drew]; omega) (fun k hk => (RL.out.own.lt k hk).1)); (have RA := hide (RL.out.app hb1 hown1)); (obtain ⟨_, _, _, _, kb, _⟩ := RL.out.blk); (have kc := kb.below hb1 RL.out.low); (have m5 := kc.cell 5); (simp only [List.getElem?_toArray, List.getElem?_cons_succ, List.getElem?_cons_zero] at m5); (have mf := kc.frozen); (have ml := kc.lt); (clear hown1 hgr1 hfr1 hb1 kb kc)) | (go_simp; go_at_call 98; refine (HIX.out _ ?hb).mono ?_; (case hb => exact (by repeat (first | exact Below.refl _ _ | with_reducible refine bl_plus ?_ | with_reducible refine bl_alloc ?_ _ | with_reducible refine bl_drew ?_ | with_reducible refine bl_drewN ?_ _))); rintro e w' ⟨rfl, rfl⟩))
                all_goals
                  go_wp2_with fail
                  go_meet
                  exact ⟨_, A3, c3, rfl, RA⟩
              case rest =>
                obtain ⟨w1, A3, c3, rfl, RA⟩ := hcut
                clear RL HIX a1 a2 a3 a4 a5 a6 a7 a8 c0' d0 hbb
                obtain ⟨a1, a2, a3, a4, a5, a6, a7, a8⟩ := RA.out.at_
                obtain ⟨⟨b2, o2, q2, j1, j2, j3, j4, j5, j6⟩, j7, j8, j9⟩ := RA.out.rd
                have m0 : w1.cell? ⟨p, 0, none⟩ = some (.slice (some ⟨b2, o2, none⟩) (t.length + 1) q2) := j1.cell 0
                have hl2 : t.length + 1 ≤ q2 := j4
                have hs3 : done.length + (t.length + 1) = L1.length := hsum
                have RN := hide (RA.out.call (Rd.next j1 j2 j3 j4 j5 j6 j7 j8 j9) (Trn.set _ _))
                have RM := hide (fun hc1 : q2 = 1 => RA.out.call (Rd.next0 (x := x) j1 j2 j3 (by omega) j7 j8 j9) (Trn.set _ _))
                have RO := hide (RA.out.call (Rd.next_if j1 j2 j3 j4 j5 j6 j7 j8 j9) (Trn.set _ _))
                clear j1 j2 j3 j4 j5 j6 j7 j8 j9 hsum ST g1 g2
                go_wp2
                all_goals
                  go_roundw
                  case rel => exact ⟨done ++ [v], t, A3, c3, by rw [List.length_append]; rfl, HS2, (by first | exact RN | exact RO | exact hide (RM.out (by omega))), by rw [List.length_append, List.length_singleton]; omega⟩
                  case measure => simp [intOf]; omega

end Go.Proofs.YtjaoiehjhnmahaaGreatDoor
