/-
  WALKS: slices.SortStableFunc's parts at values (elements of several cells): symMerge, the insertion, the whole.
-/
import Derived.Test.YtfpcfpjnafnjiaaStkNr
import Derived.Deep.DeepCutAuto
import Derived.Deep.RegionWith
set_option linter.all false
namespace Go.Proofs.Ytfpcfpjnafnjiaa
open Go.RowKit Go.Shelf Go.Lib Go.Sort
attribute [local simp high] sizeOf_five_Nr sizeOf_five2_Nr
variable {α : Type} [Inhabited α] {enc : α → List Value}

/-- .. however its numbers are written. -/
theorem rotate_iK_Nr (g : Nat) (cb : Array Value) (blk off cap a m b N : Nat) (za zm zb : Int) (d0 d : Array α) (w0 w : World)
    (R : RowK enc five_Nr w0 blk off d0) (hs : d0.size = N) (hN : d.size = N) (S : SWK enc five_Nr w0 blk off d w) (ha : a < m) (hb : m < b) (hbd : b ≤ N) (hsz : N < 4611686018427387904) (ea : za = (a : Int)) (em : zm = (m : Int)) (eb : zb = (b : Int)) :
    Calls Try.prog 73 #[.slice (some ⟨blk, off, none⟩) N cap, .int .i64 za, .int .i64 zm, .int .i64 zb, .func (.func g) #[] cb] w fun e w' => e = .returned (.tuple #[]) ∧ SWK enc five_Nr w0 blk off (rotGo m (m - a) (b - m) d) w' := by
  subst ea em eb hN
  exact rotate_sK_Nr g cb blk off cap a m b d0 d w0 w R hs S ha hb hbd hsz

/-- symMerge as a contract, at no more than f elements. -/
def MergesTo_Nr (enc : α → List Value) (g : Nat) (cb : Array Value) (cf : α → α → Int) (blk off cap N : Nat) (w0 : World) (f : Nat) : Prop :=
  ∀ (a m b : Nat) (za zm zb : Int) (d : Array α) (w : World), d.size = N → SWK enc five_Nr w0 blk off d w → a < m → m < b → b ≤ N → b - a ≤ f → za = (a : Int) → zm = (m : Int) → zb = (b : Int) →
    Calls Try.prog 67 #[.slice (some ⟨blk, off, none⟩) N cap, .int .i64 za, .int .i64 zm, .int .i64 zb, .func (.func g) #[] cb] w fun e w' => e = .returned (.tuple #[]) ∧ SWK enc five_Nr w0 blk off (symM (ltOf cf) f a m b d) w'

set_option maxHeartbeats 16000000 in
set_option maxRecDepth 1000000 in
theorem symMerge_moreK_Nr (g : Nat) (cb : Array Value) (cf : α → α → Int) (blk off cap N : Nat) (d0 : Array α) (w0 : World) (eg : ∀ args w, (callFunc g args).run Try.prog w = .ok (.enter g args) w) (hcmp : CmpLays Try.prog g cb enc five_Nr cf blk off N w0) (R : RowK enc five_Nr w0 blk off d0) (hs : d0.size = N) (hsz : N < 4611686018427387904)
    (f a m b : Nat) (ih : MergesTo_Nr enc g cb cf blk off cap N w0 f) (d : Array α) (w : World) (hN : d.size = N) (S : SWK enc five_Nr w0 blk off d w) (h1 : a < m) (h2 : m < b) (h3 : b ≤ N) (hf : b - a ≤ f + 1) (e1 : ¬ m - a = 1) (e2 : ¬ b - m = 1) :
    Calls Try.prog 67 #[.slice (some ⟨blk, off, none⟩) N cap, .int .i64 a, .int .i64 m, .int .i64 b, .func (.func g) #[] cb] w fun e w' => e = .returned (.tuple #[]) ∧ SWK enc five_Nr w0 blk off (symM (ltOf cf) (f + 1) a m b d) w' := by
  have mixed : Try.prog.follows .mixedOrders = true := by kernel_rfl
  have HC : Aside _ := hcmp
  have IH : Aside _ := ih
  have S0 : Aside (SWK enc five_Nr w0 blk off d w) := S
  clear S hcmp ih
  have t1 : ((m : Int) - (a : Int) == 1) = false := by simp; omega
  have t2 : ((b : Int) - (m : Int) == 1) = false := by simp; omega
  have hbd := symAt_bounds (ltOf cf) d h1 h2
  have hlh := sym_bounds h1 h2
  have HM : Hid (∀ s, symAt (ltOf cf) a m b d = s → symM (ltOf cf) (f + 1) a m b d = symR (ltOf cf) f s m a b (symL (ltOf cf) f a s b (symRot m s ((a + b) / 2 + m - s) d))) := fun s hsv => symM_more (ltOf cf) e1 e2 hsv
  have HA : Hid (∀ s, symAt (ltOf cf) a m b d = s → half (fun c => !ltOf cf d[(a + b) / 2 + m - 1 - c]! d[c]!) (symLo a m b) (symHi a m b) = s) := fun s hsv => hsv
  generalize symAt (ltOf cf) a m b d = s at hbd HM HA
  have HM2 : Hid (symM (ltOf cf) (f + 1) a m b d = symR (ltOf cf) f s m a b (symL (ltOf cf) f a s b (symRot m s ((a + b) / 2 + m - s) d))) := HM.out s rfl
  have HA2 : Hid (half (fun c => !ltOf cf d[(a + b) / 2 + m - 1 - c]! d[c]!) (symLo a m b) (symHi a m b) = s) := HA.out s rfl
  clear HM HA
  have hlo : ((a + b) / 2 < m ∧ symLo a m b = (a + b) / 2 + m - b ∧ symHi a m b = (a + b) / 2) ∨ (¬ (a + b) / 2 < m ∧ symLo a m b = a ∧ symHi a m b = m) := by
    unfold symLo symHi
    by_cases h : (a + b) / 2 < m
    · exact .inl ⟨h, by rw [if_pos h], by rw [if_pos h]⟩
    · exact .inr ⟨h, by rw [if_neg h], by rw [if_neg h]⟩
  generalize symLo a m b = lo at hlh hlo HA2
  generalize symHi a m b = hi at hlh hlo HA2
  obtain ⟨q, hq⟩ : ∃ q, q = (a + b) / 2 := ⟨_, rfl⟩
  have zq : ((a : Int) + (b : Int)) / 2 = (q : Int) := by omega
  rw [← hq] at hlh hlo HA2 HM2 hbd
  obtain ⟨v, hv⟩ : ∃ v, v = q + m - s := ⟨_, rfl⟩
  rw [← hv] at HM2 hbd
  have hq1 : 2 * q ≤ a + b := by omega
  have hq2 : a + b ≤ 2 * q + 1 := by omega
  have hv1 : v + s ≤ q + m := by omega
  have hv2 : q + m ≤ v + s := by omega
  clear hq hv
  have hhs : s ≤ hi := by
    have := half_up (f := fun c => !ltOf cf d[q + m - 1 - c]! d[c]!) hlh.2.1
    rw [HA2.out] at this; exact this
  go_enter Try.func67, Try.ntmps67
  go_upto_if 140 with (fail)
  go_cut [20, 21] from 138 to 146 (fun vs vr wx => vs = .int .i64 lo ∧ vr = .int .i64 hi ∧ wx = w)
  case first =>
    rcases hlo with ⟨hm, hl, hh⟩ | ⟨hm, hl, hh⟩
    · have hl1 : lo + b ≤ q + m := by omega
      have hl2 : q + m ≤ lo + b := by omega
      have hh1 : hi ≤ q := by omega
      have hh2 : q ≤ hi := by omega
      clear hl hh
      have hmz : (q : Int) < (m : Int) := by omega
      go_wp2_with fail
      go_meet
      exact ⟨by congr 1; omega, by congr 1; omega, rfl⟩
    · have hl1 : lo ≤ a := by omega
      have hl2 : a ≤ lo := by omega
      have hh1 : hi ≤ m := by omega
      have hh2 : m ≤ hi := by omega
      clear hl hh
      have hmz : ¬ (q : Int) < (m : Int) := by omega
      go_wp2_with fail
      go_meet
      exact ⟨by congr 1; omega, by congr 1; omega, rfl⟩
  case rest =>
    obtain ⟨rfl, rfl, rfl⟩ := hcut
    clear hlo
    go_wp2
    go_loopg [20, 21] N (fun g1 vi vj wr => ∃ (i j : Nat), vi = .int .i64 i ∧ vj = .int .i64 j ∧ lo ≤ i ∧ i ≤ j ∧ j ≤ hi ∧ j - i ≤ g1 ∧ Aside (SWK enc five_Nr w0 blk off d wr) ∧ Hid (half (fun c => !ltOf cf d[q + m - 1 - c]! d[c]!) i j = s))
    case atStart => exact ⟨lo, hi, rfl, rfl, Nat.le_refl _, by omega, Nat.le_refl _, by omega, S0, HA2⟩
    case round =>
      clear S0
      obtain ⟨i, j, rfl, rfl, hmi, hij, hjb, hg1, S1, HO⟩ := hrel
      by_cases hlt : i < j
      · have hltz : (i : Int) < (j : Int) := by omega
        obtain ⟨y, hy⟩ : ∃ yy, yy = q + m - 1 - (i + j) / 2 := ⟨_, rfl⟩
        have zy : (q : Int) + (m : Int) - 1 - ((i : Int) + (j : Int)) / 2 = (y : Int) := by omega
        have wy : IntKind.i64.wrap ((q : Int) + (m : Int) - 1 - ((i : Int) + (j : Int)) / 2) = (y : Int) := by rw [IntKind.wrap_i64]; omega
        have hy1 : y + (i + j) / 2 + 1 ≤ q + m := by omega
        have hy2 : q + m ≤ y + (i + j) / 2 + 1 := by omega
        cases hlv : ltOf cf d[y]! d[(i + j) / 2]! with
        | false =>
          have HO2 : Hid (half (fun c => !ltOf cf d[q + m - 1 - c]! d[c]!) ((i + j) / 2 + 1) j = s) := by show _ = _; rw [← HO.out, half_yes (i := i) (j := j) hlt (by show (!ltOf cf d[q + m - 1 - (i + j) / 2]! d[(i + j) / 2]!) = true; rw [← hy, hlv]; rfl)]
          clear HO hy
          obtain ⟨iN1, hiN1⟩ : ∃ qq, qq = y := ⟨_, rfl⟩
          obtain ⟨jN1, hjN1⟩ : ∃ qq, qq = (i + j) / 2 := ⟨_, rfl⟩
          have ea1 : ((y : Int)).toNat = iN1 := by omega
          have pa1 : (0 : Int) ≤ (y : Int) := by omega
          have ba1 : (y : Int) < (N : Int) := by omega
          have ra1 : IntKind.i64.wrap ((y : Int)) = (y : Int) := by rw [IntKind.wrap_i64]; omega
          have ec1 : (((i : Int) + (j : Int)) / 2).toNat = jN1 := by omega
          have pc1 : (0 : Int) ≤ ((i : Int) + (j : Int)) / 2 := by omega
          have bc1 : ((i : Int) + (j : Int)) / 2 < (N : Int) := by omega
          have rc1 : IntKind.i64.wrap (((i : Int) + (j : Int)) / 2) = ((i : Int) + (j : Int)) / 2 := by rw [IntKind.wrap_i64]; omega
          obtain ⟨x1, hx1⟩ : ∃ x, x = d[y]! := ⟨_, rfl⟩
          obtain ⟨y1, hy1⟩ : ∃ x, x = d[(i + j) / 2]! := ⟨_, rfl⟩
          have l1a := S1.out.ld R (by omega) Try.prog (y) (by omega)
          have l1b := S1.out.ld R (by omega) Try.prog ((i + j) / 2) (by omega)
          rw [← hx1, ← hiN1] at l1a
          rw [← hy1, ← hjN1] at l1b
          have hc1 := S1.out.cmp HC.out (by omega) x1 y1
          have hv1 : ¬ cf x1 y1 < 0 := by rw [hx1, hy1]; exact of_decide_eq_false hlv
          have hd1 : decide (cf x1 y1 < 0) = false := decide_eq_false hv1
          clear hx1 hy1 hiN1 hjN1
          go_wp2_with fail
          go_quiet_grown (first | (go_at_fn g; refine Calls.grown_of (hc1 _ _)))
          have S2 : Aside (SWK enc five_Nr w0 blk off d (grow (wr.drewN nq) osq)) := S1.out.grown nq osq
          clear l1a l1b hc1 S1
          generalize grow (wr.drewN nq) osq = w2 at S2 ⊢
          clear nq osq
          clear ea1 ec1
          go_wp2
          go_roundg (j - ((i + j) / 2 + 1))
          case measure => omega
          case rel => exact ⟨(i + j) / 2 + 1, j, by go_num, rfl, by omega, by omega, hjb, Nat.le_refl _, S2, HO2⟩
        | true =>
          have HO2 : Hid (half (fun c => !ltOf cf d[q + m - 1 - c]! d[c]!) i ((i + j) / 2) = s) := by show _ = _; rw [← HO.out, half_no (i := i) (j := j) hlt (by show (!ltOf cf d[q + m - 1 - (i + j) / 2]! d[(i + j) / 2]!) = false; rw [← hy, hlv]; rfl)]
          clear HO hy
          obtain ⟨iN2, hiN2⟩ : ∃ qq, qq = y := ⟨_, rfl⟩
          obtain ⟨jN2, hjN2⟩ : ∃ qq, qq = (i + j) / 2 := ⟨_, rfl⟩
          have ea2 : ((y : Int)).toNat = iN2 := by omega
          have pa2 : (0 : Int) ≤ (y : Int) := by omega
          have ba2 : (y : Int) < (N : Int) := by omega
          have ra2 : IntKind.i64.wrap ((y : Int)) = (y : Int) := by rw [IntKind.wrap_i64]; omega
          have ec2 : (((i : Int) + (j : Int)) / 2).toNat = jN2 := by omega
          have pc2 : (0 : Int) ≤ ((i : Int) + (j : Int)) / 2 := by omega
          have bc2 : ((i : Int) + (j : Int)) / 2 < (N : Int) := by omega
          have rc2 : IntKind.i64.wrap (((i : Int) + (j : Int)) / 2) = ((i : Int) + (j : Int)) / 2 := by rw [IntKind.wrap_i64]; omega
          obtain ⟨x2, hx2⟩ : ∃ x, x = d[y]! := ⟨_, rfl⟩
          obtain ⟨y2, hy2⟩ : ∃ x, x = d[(i + j) / 2]! := ⟨_, rfl⟩
          have l2a := S1.out.ld R (by omega) Try.prog (y) (by omega)
          have l2b := S1.out.ld R (by omega) Try.prog ((i + j) / 2) (by omega)
          rw [← hx2, ← hiN2] at l2a
          rw [← hy2, ← hjN2] at l2b
          have hc2 := S1.out.cmp HC.out (by omega) x2 y2
          have hv2 : cf x2 y2 < 0 := by rw [hx2, hy2]; exact of_decide_eq_true hlv
          have hd2 : decide (cf x2 y2 < 0) = true := decide_eq_true hv2
          clear hx2 hy2 hiN2 hjN2
          go_wp2_with fail
          go_quiet_grown (first | (go_at_fn g; refine Calls.grown_of (hc2 _ _)))
          have S2 : Aside (SWK enc five_Nr w0 blk off d (grow (wr.drewN nq) osq)) := S1.out.grown nq osq
          clear l2a l2b hc2 S1
          generalize grow (wr.drewN nq) osq = w2 at S2 ⊢
          clear nq osq
          clear ea2 ec2
          go_wp2
          go_roundg ((i + j) / 2 - i)
          case measure => omega
          case rel => exact ⟨i, (i + j) / 2, rfl, by go_num, hmi, by omega, by omega, Nat.le_refl _, S2, HO2⟩
      · have hltz : ¬ (i : Int) < (j : Int) := by omega
        have hi2 : i = s := by rw [← HO.out, half_stop hlt]
        subst hi2
        clear HO
        have zv : (q : Int) + (m : Int) - (i : Int) = (v : Int) := by omega
        clear hg1 hmi hij hltz
        go_upto_region 39 with (fail)
        go_cut [185] from 178 to 185 (fun c wx => c = .bool (decide (i < m ∧ m < v)) ∧ wx = wr)
        case first =>
          by_cases c1 : i < m
          · have c1z : (i : Int) < (m : Int) := by omega
            by_cases c2 : m < v
            · have c2z : (m : Int) < (v : Int) := by omega
              go_wp2_with fail
              go_meet
              exact ⟨by rw [decide_eq_true (show i < m ∧ m < v from ⟨c1, c2⟩)], rfl⟩
            · have c2z : ¬ (m : Int) < (v : Int) := by omega
              go_wp2_with fail
              go_meet
              exact ⟨by rw [decide_eq_false (show ¬ (i < m ∧ m < v) from fun h => c2 h.2)], rfl⟩
          · have c1z : ¬ (i : Int) < (m : Int) := by omega
            go_wp2_with fail
            go_meet
            exact ⟨by rw [decide_eq_false (show ¬ (i < m ∧ m < v) from fun h => c1 h.1)], rfl⟩
        case rest =>
          obtain ⟨rfl, rfl⟩ := hcut
          go_upto_if 185 with (fail)
          go_cut [] from 185 to 191 (fun wx => Aside (SWK enc five_Nr w0 blk off (symRot m i v d) wx))
          case first =>
            by_cases c : i < m ∧ m < v
            · rw [decide_eq_true c]
              go_wp2_with (go_at_call 73; refine (rotate_iK_Nr g cb blk off cap i m v N _ _ _ d0 d w0 _ R hs hN S1.out c.1 c.2 (by omega) hsz rfl rfl rfl).mono ?_; rintro e w' ⟨rfl, hS⟩)
              go_meet
              show SWK enc five_Nr w0 blk off (symRot m i v d) _
              unfold symRot; rw [if_pos c]; exact hS
            · rw [decide_eq_false c]
              go_wp2_with fail
              go_meet
              show SWK enc five_Nr w0 blk off (symRot m i v d) _
              unfold symRot; rw [if_neg c]; exact S1.out
          case rest =>
            clear S1
            have S2 : Aside (SWK enc five_Nr w0 blk off (symRot m i v d) wc) := hcut
            clear hcut
            have hN1 : (symRot m i v d).size = N := by rw [(symRot_swaps (m := m) (s := i) (e := v) d (by omega)).size]; exact hN
            generalize symRot m i v d = d1 at S2 hN1 HM2
            go_upto_region 41 with (fail)
            go_cut [199] from 192 to 199 (fun c wx => c = .bool (decide (a < i ∧ i < q)) ∧ wx = wc)
            case first =>
              by_cases c1 : a < i
              · have c1z : (a : Int) < (i : Int) := by omega
                by_cases c2 : i < q
                · have c2z : (i : Int) < (q : Int) := by omega
                  go_wp2_with fail
                  go_meet
                  exact ⟨by rw [decide_eq_true (show a < i ∧ i < q from ⟨c1, c2⟩)], rfl⟩
                · have c2z : ¬ (i : Int) < (q : Int) := by omega
                  go_wp2_with fail
                  go_meet
                  exact ⟨by rw [decide_eq_false (show ¬ (a < i ∧ i < q) from fun h => c2 h.2)], rfl⟩
              · have c1z : ¬ (a : Int) < (i : Int) := by omega
                go_wp2_with fail
                go_meet
                exact ⟨by rw [decide_eq_false (show ¬ (a < i ∧ i < q) from fun h => c1 h.1)], rfl⟩
            case rest =>
              obtain ⟨rfl, rfl⟩ := hcut
              go_upto_if 199 with (fail)
              go_cut [] from 199 to 205 (fun wx => Aside (SWK enc five_Nr w0 blk off (symL (ltOf cf) f a i b d1) wx))
              case first =>
                by_cases c : a < i ∧ i < q
                · have hS3 : symL (ltOf cf) f a i b d1 = symM (ltOf cf) f a i q d1 := by unfold symL; rw [show (a + b) / 2 = q by omega, if_pos c]
                  have HS3 := hide hS3
                  clear hS3
                  rw [decide_eq_true c]
                  go_wp2_with (go_at_call 67; refine (IH.out a i q _ _ _ d1 _ hN1 S2.out c.1 c.2 (by omega) (by omega) rfl rfl rfl).mono ?_; rintro e w' ⟨rfl, hS⟩)
                  go_meet
                  show SWK enc five_Nr w0 blk off (symL (ltOf cf) f a i b d1) _
                  rw [HS3.out]; exact hS
                · have hS3 : symL (ltOf cf) f a i b d1 = d1 := by unfold symL; rw [show (a + b) / 2 = q by omega, if_neg c]
                  have HS3 := hide hS3
                  clear hS3
                  rw [decide_eq_false c]
                  go_wp2_with fail
                  go_meet
                  show SWK enc five_Nr w0 blk off (symL (ltOf cf) f a i b d1) _
                  rw [HS3.out]; exact S2.out
              case rest =>
                clear S2
                have S3 : Aside (SWK enc five_Nr w0 blk off (symL (ltOf cf) f a i b d1) wc) := hcut
                clear hcut
                have hN2 : (symL (ltOf cf) f a i b d1).size = N := by
                  unfold symL
                  split
                  · rw [(symM_swaps (ltOf cf) f a i _ d1 (by omega) (by omega) (by omega)).size]; exact hN1
                  · exact hN1
                generalize symL (ltOf cf) f a i b d1 = d2 at S3 hN2 HM2
                go_upto_region 43 with (fail)
                go_cut [213] from 206 to 213 (fun c wx => c = .bool (decide (q < v ∧ v < b)) ∧ wx = wc)
                case first =>
                  by_cases c1 : q < v
                  · have c1z : (q : Int) < (v : Int) := by omega
                    by_cases c2 : v < b
                    · have c2z : (v : Int) < (b : Int) := by omega
                      go_wp2_with fail
                      go_meet
                      exact ⟨by rw [decide_eq_true (show q < v ∧ v < b from ⟨c1, c2⟩)], rfl⟩
                    · have c2z : ¬ (v : Int) < (b : Int) := by omega
                      go_wp2_with fail
                      go_meet
                      exact ⟨by rw [decide_eq_false (show ¬ (q < v ∧ v < b) from fun h => c2 h.2)], rfl⟩
                  · have c1z : ¬ (q : Int) < (v : Int) := by omega
                    go_wp2_with fail
                    go_meet
                    exact ⟨by rw [decide_eq_false (show ¬ (q < v ∧ v < b) from fun h => c1 h.1)], rfl⟩
                case rest =>
                  obtain ⟨rfl, rfl⟩ := hcut
                  by_cases c : q < v ∧ v < b
                  · have hS4 : symR (ltOf cf) f i m a b d2 = symM (ltOf cf) f q v b d2 := by unfold symR; rw [show (a + b) / 2 = q by omega, show q + m - i = v by omega, if_pos c]
                    have HS4 := hide hS4
                    clear hS4
                    rw [decide_eq_true c]
                    go_wp2_with (go_at_call 67; refine (IH.out q v b _ _ _ d2 _ hN2 S3.out c.1 c.2 (by omega) (by omega) rfl rfl rfl).mono ?_; rintro e w' ⟨rfl, hS⟩)
                    go_end0
                    exact ⟨rfl, by rw [HM2.out, HS4.out]; exact hS⟩
                  · have hS4 : symR (ltOf cf) f i m a b d2 = d2 := by unfold symR; rw [show (a + b) / 2 = q by omega, show q + m - i = v by omega, if_neg c]
                    have HS4 := hide hS4
                    clear hS4
                    rw [decide_eq_false c]
                    go_wp2_with fail
                    go_end0
                    exact ⟨rfl, by rw [HM2.out, HS4.out]; exact S3.out⟩

/-- slices.symMergeCmpFunc at ints. -/
theorem symMerge_allK_Nr (g : Nat) (cb : Array Value) (cf : α → α → Int) (blk off cap N : Nat) (d0 : Array α) (w0 : World) (eg : ∀ args w, (callFunc g args).run Try.prog w = .ok (.enter g args) w) (hcmp : CmpLays Try.prog g cb enc five_Nr cf blk off N w0) (R : RowK enc five_Nr w0 blk off d0) (hs : d0.size = N) (hsz : N < 4611686018427387904) : ∀ f, MergesTo_Nr enc g cb cf blk off cap N w0 f := by
  intro f
  induction f with
  | zero => intro a m b za zm zb d w hN S h1 h2 h3 hf; omega
  | succ f ih =>
    intro a m b za zm zb d w hN S h1 h2 h3 hf ea em eb
    subst ea em eb
    by_cases e1 : m - a = 1
    · exact symMerge_oneK_Nr g cb cf blk off cap N d0 w0 eg hcmp R hs hsz f a m b d w hN S h1 h2 h3 e1
    · by_cases e2 : b - m = 1
      · exact symMerge_lastK_Nr g cb cf blk off cap N d0 w0 eg hcmp R hs hsz f a m b d w hN S h1 h2 h3 e1 e2
      · exact symMerge_moreK_Nr g cb cf blk off cap N d0 w0 eg hcmp R hs hsz f a m b ih d w hN S h1 h2 h3 hf e1 e2

end Go.Proofs.Ytfpcfpjnafnjiaa
/-
  WALKS: slices.insertionSortCmpFunc, slices.stableCmpFunc and slices.SortStableFunc at ints.
-/
namespace Go.Proofs.Ytfpcfpjnafnjiaa
open Go.RowKit Go.Shelf Go.Lib Go.Sort
attribute [local simp high] sizeOf_five_Nr sizeOf_five2_Nr
variable {α : Type} [Inhabited α] {enc : α → List Value}

set_option maxHeartbeats 16000000 in
set_option maxRecDepth 1000000 in
/-- slices.insertionSortCmpFunc at ints. -/
theorem insertion_sK_Nr (g : Nat) (cb : Array Value) (cf : α → α → Int) (blk off cap N : Nat) (d0 : Array α) (w0 : World) (eg : ∀ args w, (callFunc g args).run Try.prog w = .ok (.enter g args) w) (hcmp : CmpLays Try.prog g cb enc five_Nr cf blk off N w0) (R : RowK enc five_Nr w0 blk off d0) (hs : d0.size = N) (hsz : N < 4611686018427387904)
    (a b : Nat) (za zb : Int) (d : Array α) (w : World) (hN : d.size = N) (S : SWK enc five_Nr w0 blk off d w) (hab : a ≤ b) (hb : b ≤ N) (ea : za = (a : Int)) (eb : zb = (b : Int)) :
    Calls Try.prog 66 #[.slice (some ⟨blk, off, none⟩) N cap, .int .i64 za, .int .i64 zb, .func (.func g) #[] cb] w fun e w' => e = .returned (.tuple #[]) ∧ SWK enc five_Nr w0 blk off (insertionSort (ltOf cf) d a b) w' := by
  subst ea eb
  have mixed : Try.prog.follows .mixedOrders = true := by kernel_rfl
  have HC : Aside _ := hcmp
  have S0 : Aside (SWK enc five_Nr w0 blk off d w) := S
  clear S hcmp
  go_enter Try.func66, Try.ntmps66
  go_wp2
  go_loopg [8] (b - a) (fun g1 vi wr => ∃ (i : Nat) (dk : Array α), vi = .int .i64 i ∧ a < i ∧ i ≤ b + 1 ∧ b + 1 - i ≤ g1 + 1 ∧ dk.size = N ∧ Aside (SWK enc five_Nr w0 blk off dk wr) ∧ Hid (insOuter (ltOf cf) a b i dk = insOuter (ltOf cf) a b (a + 1) d))
  case atStart => exact ⟨a + 1, d, by go_num, by omega, by omega, by omega, hN, S0, rfl⟩
  case round =>
    clear S0
    obtain ⟨i, dk, rfl, hai, hib, hg1, hsk, S1, HO⟩ := hrel
    by_cases hlt : i < b
    · have hltz : (i : Int) < (b : Int) := by omega
      go_wp2
      go_loopg [9] i (fun g2 vj wr2 => ∃ (j : Nat) (dj : Array α), vj = .int .i64 j ∧ a ≤ j ∧ j ≤ i ∧ j ≤ g2 ∧ dj.size = N ∧ Aside (SWK enc five_Nr w0 blk off dj wr2) ∧ Hid (insInner (ltOf cf) a j dj = insInner (ltOf cf) a i dk))
      case atStart => exact ⟨i, dk, rfl, by omega, Nat.le_refl _, Nat.le_refl _, hsk, S1, rfl⟩
      case round =>
        clear S1
        obtain ⟨j, dj, rfl, haj, hji, hg2, hsj, SJ, HI⟩ := hrel
        have out : (j ≤ a ∨ (ltOf cf) dj[j]! dj[j - 1]! = false) → Hid (insOuter (ltOf cf) a b (i + 1) dj = insOuter (ltOf cf) a b (a + 1) d) := fun hs => by
          show _ = _
          rw [← HO.out, insOuter_go _ _ _ _ _ hlt, ← HI.out, insInner_stop _ _ _ _ hs]
        have OUT : Aside _ := out
        clear out
        by_cases hja : a < j
        · have hjaz : (a : Int) < (j : Int) := by omega
          obtain ⟨jp, hjp⟩ : ∃ q, q + 1 = j := ⟨j - 1, by omega⟩
          have zjp : (j : Int) = (jp : Int) + 1 := by omega
          have hjad : decide ((jp : Int) + 1 > (a : Int)) = true := decide_eq_true (by omega)
          have hjaz' : (a : Int) < (jp : Int) + 1 := by omega
          cases hlv : (ltOf cf) dj[j]! dj[j - 1]! with
          | true =>
            obtain ⟨iN1, hiN1⟩ : ∃ qq, qq = j := ⟨_, rfl⟩
            obtain ⟨jN1, hjN1⟩ : ∃ qq, qq = j - 1 := ⟨_, rfl⟩
            have ea1 : ((jp : Int) + 1).toNat = iN1 := by omega
            have pa1 : (0 : Int) ≤ (jp : Int) + 1 := by omega
            have ba1 : (jp : Int) + 1 < (N : Int) := by omega
            have ra1 : IntKind.i64.wrap ((jp : Int) + 1) = (jp : Int) + 1 := by rw [IntKind.wrap_i64]; omega
            have ec1 : ((jp : Int)).toNat = jN1 := by omega
            have pc1 : (0 : Int) ≤ (jp : Int) := by omega
            have bc1 : (jp : Int) < (N : Int) := by omega
            have rc1 : IntKind.i64.wrap ((jp : Int)) = (jp : Int) := by rw [IntKind.wrap_i64]; omega
            obtain ⟨x1, hx1⟩ : ∃ x, x = dj[j]! := ⟨_, rfl⟩
            obtain ⟨y1, hy1⟩ : ∃ x, x = dj[j - 1]! := ⟨_, rfl⟩
            have l1a := SJ.out.ld R (by omega) Try.prog (j) (by omega)
            have l1b := SJ.out.ld R (by omega) Try.prog (j - 1) (by omega)
            rw [← hx1, ← hiN1] at l1a
            rw [← hy1, ← hjN1] at l1b
            have hc1 := SJ.out.cmp HC.out (by omega) x1 y1
            have hv1 : cf x1 y1 < 0 := by rw [hx1, hy1]; exact of_decide_eq_true hlv
            have hd1 : decide (cf x1 y1 < 0) = true := decide_eq_true hv1
            clear hx1 hy1 hiN1 hjN1
            go_wp2_with fail
            go_quiet_grown (first | (go_at_fn g; refine Calls.grown_of (hc1 _ _)))
            have S2 : Aside (SWK enc five_Nr w0 blk off dj (grow (wr.drewN nq) osq)) := SJ.out.grown nq osq
            clear l1a l1b hc1 SJ
            generalize grow (wr.drewN nq) osq = w2 at S2 ⊢
            clear nq osq
            clear ea1 ec1
            go_wp2_with fail
            obtain ⟨iN3, hiN3⟩ : ∃ qq, qq = j := ⟨_, rfl⟩
            obtain ⟨jN3, hjN3⟩ : ∃ qq, qq = j - 1 := ⟨_, rfl⟩
            have ea3 : ((jp : Int) + 1).toNat = iN3 := by omega
            have pa3 : (0 : Int) ≤ (jp : Int) + 1 := by omega
            have ba3 : (jp : Int) + 1 < (N : Int) := by omega
            have ra3 : IntKind.i64.wrap ((jp : Int) + 1) = (jp : Int) + 1 := by rw [IntKind.wrap_i64]; omega
            have ec3 : ((jp : Int)).toNat = jN3 := by omega
            have pc3 : (0 : Int) ≤ (jp : Int) := by omega
            have bc3 : (jp : Int) < (N : Int) := by omega
            have rc3 : IntKind.i64.wrap ((jp : Int)) = (jp : Int) := by rw [IntKind.wrap_i64]; omega
            obtain ⟨x3, hx3⟩ : ∃ x, x = dj[j]! := ⟨_, rfl⟩
            obtain ⟨y3, hy3⟩ : ∃ x, x = dj[j - 1]! := ⟨_, rfl⟩
            have S3 : Aside (SWK enc five_Nr w0 blk off (swp dj (j) (j - 1)) ((w2.drew.setCells blk (off + iN3 * five_Nr) (enc y3)).setCells blk (off + jN3 * five_Nr) (enc x3))) := by rw [hiN3, hjN3, hx3, hy3]; exact S2.out.swapped R (j) (j - 1) (by omega) (by omega)
            have l3a := S2.out.ld1 R (by omega) Try.prog (j) (by omega)
            have l3b := S2.out.ld1 R (by omega) Try.prog (j - 1) (by omega)
            have s3a := S2.out.st1 R (by omega) Try.prog (j) (by omega) y3
            have s3b := S2.out.st2 R (by omega) Try.prog (j) (j - 1) (by omega) (by omega) y3 x3
            rw [← hx3, ← hiN3] at l3a
            rw [← hy3, ← hjN3] at l3b
            rw [← hiN3] at s3a
            first | rw [← hjN3, ← hiN3] at s3b | rw [← hiN3, ← hjN3] at s3b
            have n3a : (enc x3).length = five_Nr := R.hk _
            have n3b : (enc y3).length = five_Nr := R.hk _
            clear S2 hx3 hy3 hiN3 hjN3
            generalize enc x3 = cI3 at S3 l3a s3b n3a
            generalize enc y3 = cJ3 at S3 l3b s3a s3b n3b
            go_wp2_with fail
            go_big_region_o
            clear l3a l3b s3a s3b
            generalize (w2.drew.setCells blk (off + iN3 * five_Nr) cJ3).setCells blk (off + jN3 * five_Nr) cI3 = w3 at S3 ⊢
            clear ea3 ec3
            go_wp2
            go_roundg (j - 1)
            case measure => omega
            case rel => exact ⟨j - 1, swp dj j (j - 1), by first | rfl | go_num | (congr 1; omega), by omega, by omega, Nat.le_refl _, by rw [size_swp]; exact hsj, S3, (show Hid _ from by rw [← HI.out, insInner_go (ltOf cf) a j dj hja hlv]; exact rfl)⟩
          | false =>
            obtain ⟨iN2, hiN2⟩ : ∃ qq, qq = j := ⟨_, rfl⟩
            obtain ⟨jN2, hjN2⟩ : ∃ qq, qq = j - 1 := ⟨_, rfl⟩
            have ea2 : ((jp : Int) + 1).toNat = iN2 := by omega
            have pa2 : (0 : Int) ≤ (jp : Int) + 1 := by omega
            have ba2 : (jp : Int) + 1 < (N : Int) := by omega
            have ra2 : IntKind.i64.wrap ((jp : Int) + 1) = (jp : Int) + 1 := by rw [IntKind.wrap_i64]; omega
            have ec2 : ((jp : Int)).toNat = jN2 := by omega
            have pc2 : (0 : Int) ≤ (jp : Int) := by omega
            have bc2 : (jp : Int) < (N : Int) := by omega
            have rc2 : IntKind.i64.wrap ((jp : Int)) = (jp : Int) := by rw [IntKind.wrap_i64]; omega
            obtain ⟨x2, hx2⟩ : ∃ x, x = dj[j]! := ⟨_, rfl⟩
            obtain ⟨y2, hy2⟩ : ∃ x, x = dj[j - 1]! := ⟨_, rfl⟩
            have l2a := SJ.out.ld R (by omega) Try.prog (j) (by omega)
            have l2b := SJ.out.ld R (by omega) Try.prog (j - 1) (by omega)
            rw [← hx2, ← hiN2] at l2a
            rw [← hy2, ← hjN2] at l2b
            have hc2 := SJ.out.cmp HC.out (by omega) x2 y2
            have hv2 : ¬ cf x2 y2 < 0 := by rw [hx2, hy2]; exact of_decide_eq_false hlv
            have hd2 : decide (cf x2 y2 < 0) = false := decide_eq_false hv2
            clear hx2 hy2 hiN2 hjN2
            go_wp2_with fail
            go_quiet_grown (first | (go_at_fn g; refine Calls.grown_of (hc2 _ _)))
            have S2 : Aside (SWK enc five_Nr w0 blk off dj (grow (wr.drewN nq) osq)) := SJ.out.grown nq osq
            clear l2a l2b hc2 SJ
            generalize grow (wr.drewN nq) osq = w2 at S2 ⊢
            clear nq osq
            clear ea2 ec2
            go_wp2
            go_roundg (b - (i + 1))
            case measure => omega
            case rel => exact ⟨i + 1, dj, by go_num, by omega, by omega, by omega, hsj, S2, OUT.out (Or.inr hlv)⟩
        · have hjaz : decide ((j : Int) > (a : Int)) = false := decide_eq_false (by omega)
          have hjaz' : ¬ (a : Int) < (j : Int) := by omega
          go_wp2_with fail
          go_big_region_o
          have S2 : Aside (SWK enc five_Nr w0 blk off dj wr.drew) := SJ.out.drew
          clear SJ
          generalize wr.drew = w2 at S2 ⊢
          go_wp2
          go_roundg (b - (i + 1))
          case measure => omega
          case rel => exact ⟨i + 1, dj, by go_num, by omega, by omega, by omega, hsj, S2, OUT.out (Or.inl (by omega))⟩
    · have hltz : ¬ (i : Int) < (b : Int) := by omega
      go_wp2
      go_end0
      exact ⟨rfl, by unfold insertionSort; rw [← HO.out, insOuter_stop _ _ _ _ _ hlt]; exact S1.out⟩

set_option maxHeartbeats 16000000 in
set_option maxRecDepth 1000000 in
/-- slices.stableCmpFunc at ints. -/
theorem stable_sK_Nr (g : Nat) (cb : Array Value) (cf : α → α → Int) (blk off cap N : Nat) (d0 : Array α) (w0 : World) (eg : ∀ args w, (callFunc g args).run Try.prog w = .ok (.enter g args) w) (hcmp : CmpLays Try.prog g cb enc five_Nr cf blk off N w0) (R : RowK enc five_Nr w0 blk off d0) (hs : d0.size = N) (hsz : N < 4611686018427387904) (hsm : N < 1000000000000)
    (d : Array α) (w : World) (hN : d.size = N) (S : SWK enc five_Nr w0 blk off d w) :
    Calls Try.prog 50 #[.slice (some ⟨blk, off, none⟩) N cap, .int .i64 N, .func (.func g) #[] cb] w fun e w' => e = .returned (.tuple #[]) ∧ SWK enc five_Nr w0 blk off (stableF (ltOf cf) d) w' := by
  have mixed : Try.prog.follows .mixedOrders = true := by kernel_rfl
  have hins := insertion_sK_Nr g cb cf blk off cap N d0 w0 eg hcmp R hs hsz
  have hmrg := symMerge_allK_Nr g cb cf blk off cap N d0 w0 eg hcmp R hs hsz
  have HINS := hide hins
  have HMRG : Hid (∀ f, MergesTo_Nr enc g cb cf blk off cap N w0 f) := hmrg
  have S0 : Aside (SWK enc five_Nr w0 blk off d w) := S
  have HF : Hid (stableF (ltOf cf) d = dblGo (ltOf cf) N 20 (blkGo (ltOf cf) N 0 d)) := by show _ = _; unfold stableF; rw [hN]
  clear S hcmp hins hmrg
  go_enter Try.func50, Try.ntmps50
  go_wp2
  go_loopg [7, 8] N (fun g1 va vb wr => ∃ (a : Nat) (dk : Array α), va = .int .i64 a ∧ vb = .int .i64 ((a : Int) + 20) ∧ a ≤ N ∧ N - a ≤ g1 ∧ dk.size = N ∧ Aside (SWK enc five_Nr w0 blk off dk wr) ∧ Hid (blkGo (ltOf cf) N a dk = blkGo (ltOf cf) N 0 d))
  case atStart => exact ⟨0, d, rfl, rfl, Nat.zero_le _, by omega, hN, S0, rfl⟩
  case round =>
    clear S0
    obtain ⟨a, dk, rfl, rfl, haN, hg1, hsk, S1, HB⟩ := hrel
    by_cases hlt : a + 20 ≤ N
    · have hltz : (a : Int) + 20 ≤ (N : Int) := by omega
      go_wp2_with (go_at_call 66; refine (HINS.out a (a + 20) _ _ dk _ hsk S1.out (by omega) hlt (by omega) (by omega)).mono ?_; rintro e w' ⟨rfl, hS⟩; have S2 : Aside _ := hS; clear hS S1)
      go_roundg (N - (a + 20))
      case measure => omega
      case rel => exact ⟨a + 20, _, by go_num, by go_num, hlt, Nat.le_refl _, by rw [(insertionSort_swaps (ltOf cf) a (a + 20) dk (by omega)).size]; exact hsk, S2, (show Hid _ from by rw [← HB.out, blkGo_go (ltOf cf) (n := N) (a := a) hlt]; exact rfl)⟩
    · have hltz : ¬ (a : Int) + 20 ≤ (N : Int) := by omega
      have HB2 : Hid (insertionSort (ltOf cf) dk a N = blkGo (ltOf cf) N 0 d) := by show _ = _; rw [← HB.out, blkGo_stop (ltOf cf) (n := N) (a := a) hlt]
      have hs2 : (insertionSort (ltOf cf) dk a N).size = N := by rw [(insertionSort_swaps (ltOf cf) a N dk (by omega)).size]; exact hsk
      clear HB
      have HR : Hid (dblGo (ltOf cf) N 20 (insertionSort (ltOf cf) dk a N) = stableF (ltOf cf) d) := by show _ = _; rw [HB2.out, HF.out]
      clear HB2 HF
      go_wp2_with (go_at_call 66; refine (HINS.out a N _ _ dk _ hsk S1.out haN (Nat.le_refl _) rfl rfl).mono ?_; rintro e w' ⟨rfl, hS⟩; have S2 : Aside _ := hS; clear hS S1)
      generalize insertionSort (ltOf cf) dk a N = d1 at hs2 HR S2
      go_loopg [6, 7, 8] N (fun g2 vk va vb wr2 => ∃ (k : Nat) (dj : Array α), vk = .int .i64 k ∧ 0 < k ∧ k ≤ 2 * N + 20 ∧ N - k ≤ g2 ∧ dj.size = N ∧ Aside (SWK enc five_Nr w0 blk off dj wr2) ∧ Hid (dblGo (ltOf cf) N k dj = stableF (ltOf cf) d))
      case atStart => exact ⟨20, d1, rfl, by omega, by omega, by omega, hs2, S2, HR⟩
      case round =>
        clear S2 HR hs2
        obtain ⟨k, dj, rfl, hk0, hk2, hg2, hsj, S3, HD⟩ := hrel
        by_cases hkn : k < N
        · have hknz : (k : Int) < (N : Int) := by omega
          go_wp2
          go_loopg [7, 8] N (fun g3 va vb wr3 => ∃ (p : Nat) (de : Array α), va = .int .i64 p ∧ vb = .int .i64 ((p : Int) + 2 * (k : Int)) ∧ p ≤ N ∧ N - p ≤ g3 ∧ de.size = N ∧ Aside (SWK enc five_Nr w0 blk off de wr3) ∧ Hid (mrgGo (ltOf cf) N k p de = mrgGo (ltOf cf) N k 0 dj))
          case atStart => exact ⟨0, dj, rfl, by go_num, Nat.zero_le _, by omega, hsj, S3, rfl⟩
          case round =>
            clear S3
            obtain ⟨p, de, rfl, rfl, hpN, hg3, hse, S4, HM⟩ := hrel
            by_cases hpk : p + 2 * k ≤ N
            · have hpkz : (p : Int) + 2 * (k : Int) ≤ (N : Int) := by omega
              go_wp2_with (go_at_call 67; refine (HMRG.out (2 * k) p (p + k) (p + 2 * k) _ _ _ de _ hse S4.out (by omega) (by omega) hpk (by omega) rfl (by omega) (by omega)).mono ?_; rintro e w' ⟨rfl, hS⟩; have S5 : Aside _ := hS; clear hS S4)
              go_roundg (N - (p + 2 * k))
              case measure => omega
              case rel => exact ⟨p + 2 * k, _, by go_num, by go_num, hpk, Nat.le_refl _, by rw [(symM_swaps (ltOf cf) (2 * k) p (p + k) (p + 2 * k) de (by omega) (by omega) (by omega)).size]; exact hse, S5, (show Hid _ from by rw [← HM.out, mrgGo_go (ltOf cf) (n := N) (a := p) hk0 hpk]; exact rfl)⟩
            · have hpkz : ¬ (p : Int) + 2 * (k : Int) ≤ (N : Int) := by omega
              by_cases hlast : p + k < N
              · have hlastz : (p : Int) + (k : Int) < (N : Int) := by omega
                go_wp2_with (go_at_call 67; refine (HMRG.out (N - p) p (p + k) N _ _ _ de _ hse S4.out (by omega) hlast (Nat.le_refl _) (Nat.le_refl _) rfl (by omega) rfl).mono ?_; rintro e w' ⟨rfl, hS⟩; have S5 : Aside _ := hS; clear hS S4)
                go_roundg (N - k * 2)
                case measure => omega
                case rel => exact ⟨k * 2, _, by go_num, by omega, by omega, Nat.le_refl _, by rw [(symM_swaps (ltOf cf) (N - p) p (p + k) N de (by omega) hlast (by omega)).size]; exact hse, S5, (show Hid _ from by rw [← HD.out, dblGo_go (ltOf cf) hk0 hkn, ← HM.out, mrgGo_last (ltOf cf) hpk hlast]; exact rfl)⟩
              · have hlastz : ¬ (p : Int) + (k : Int) < (N : Int) := by omega
                go_wp2
                go_roundg (N - k * 2)
                case measure => omega
                case rel => exact ⟨k * 2, de, by go_num, by omega, by omega, Nat.le_refl _, hse, S4, (show Hid _ from by rw [← HD.out, dblGo_go (ltOf cf) hk0 hkn, ← HM.out, mrgGo_stop (ltOf cf) hpk hlast]; exact rfl)⟩
        · have hknz : ¬ (k : Int) < (N : Int) := by omega
          go_wp2
          go_end0
          exact ⟨rfl, by rw [← HD.out, dblGo_stop (ltOf cf) hkn]; exact S3.out⟩

set_option maxHeartbeats 4000000 in
set_option maxRecDepth 1000000 in
/-- slices.SortStableFunc at ints. -/
theorem sortStable_sK_Nr (g : Nat) (cb : Array Value) (cf : α → α → Int) (blk off cap N : Nat) (d0 : Array α) (w0 : World) (eg : ∀ args w, (callFunc g args).run Try.prog w = .ok (.enter g args) w) (hcmp : CmpLays Try.prog g cb enc five_Nr cf blk off N w0) (R : RowK enc five_Nr w0 blk off d0) (hs : d0.size = N) (hsz : N < 4611686018427387904) (hsm : N < 1000000000000)
    (d : Array α) (w : World) (hN : d.size = N) (S : SWK enc five_Nr w0 blk off d w) :
    Calls Try.prog 35 #[.slice (some ⟨blk, off, none⟩) N cap, .func (.func g) #[] cb] w fun e w' => e = .returned (.tuple #[]) ∧ SWK enc five_Nr w0 blk off (stableF (ltOf cf) d) w' := by
  have hst := stable_sK_Nr g cb cf blk off cap N d0 w0 eg hcmp R hs hsz hsm d
  have HST := hide hst
  clear hst hcmp
  go_enter Try.func35, Try.ntmps35
  go_wp2_with (go_at_call 50; refine (HST.out _ hN S).mono ?_; rintro e w' ⟨rfl, hS⟩)
  go_end0
  exact ⟨rfl, hS⟩

set_option maxHeartbeats 1600000 in
set_option maxRecDepth 1000000 in
/-- .. of a slice without elements. -/
theorem insertionK_none_Nr (g : Nat) (cb : Array Value) (A : Option Addr) (cap : Nat) (w : World) :
    Calls Try.prog 66 #[.slice A 0 cap, .int .i64 0, .int .i64 0, .func (.func g) #[] cb] w fun e w' => e = .returned (.tuple #[]) ∧ w' = w := by
  go_enter Try.func66, Try.ntmps66
  go_wp2
  refine wp_loop_rounds 1 ?_
  rw [rounds_succ]
  go_wp2
  go_end0
  exact ⟨rfl, rfl⟩
set_option maxHeartbeats 1600000 in
set_option maxRecDepth 1000000 in
theorem stableK_none_Nr (g : Nat) (cb : Array Value) (A : Option Addr) (cap : Nat) (w : World) :
    Calls Try.prog 50 #[.slice A 0 cap, .int .i64 0, .func (.func g) #[] cb] w fun e w' => e = .returned (.tuple #[]) ∧ w' = w := by
  go_enter Try.func50, Try.ntmps50
  go_wp2
  refine wp_loop_rounds 1 ?_
  rw [rounds_succ]
  go_wp2_with (go_at_call 66; refine (insertionK_none_Nr g cb A cap _).mono ?_; rintro e w' ⟨rfl, rfl⟩)
  refine wp_loop_rounds 1 ?_
  rw [rounds_succ]
  go_wp2
  go_end0
  exact ⟨rfl, rfl⟩
set_option maxHeartbeats 1600000 in
set_option maxRecDepth 1000000 in
theorem sortStableK_none_Nr (g : Nat) (cb : Array Value) (A : Option Addr) (cap : Nat) (w : World) :
    Calls Try.prog 35 #[.slice A 0 cap, .func (.func g) #[] cb] w fun e w' => e = .returned (.tuple #[]) ∧ w' = w := by
  go_enter Try.func35, Try.ntmps35
  go_wp2_with (go_at_call 50; refine (stableK_none_Nr g cb A cap _).mono ?_; rintro e w' ⟨rfl, rfl⟩)
  go_end0
  exact ⟨rfl, rfl⟩

end Go.Proofs.Ytfpcfpjnafnjiaa
