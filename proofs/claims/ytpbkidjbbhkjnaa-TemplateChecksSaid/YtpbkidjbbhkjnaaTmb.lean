/-
  WALKS: names and fields of templates, in the program.
-/
import Derived.Test.YtpbkidjbbhkjnaaTma
import Derived.Test.YtpbkidjbbhkjnaaIxc
namespace Go.Proofs.Ytpbkidjbbhkjnaa
open Go.RowKit

theorem nmB_cases (c : UInt8) : (97 ≤ c.toNat ∧ c.toNat ≤ 122 ∧ nmB c = true) ∨ (97 ≤ c.toNat ∧ 122 < c.toNat ∧ nmB c = false) ∨ (c.toNat < 97 ∧ 48 ≤ c.toNat ∧ c.toNat ≤ 57 ∧ nmB c = true) ∨
    (c.toNat < 97 ∧ 48 ≤ c.toNat ∧ 57 < c.toNat ∧ nmB c = false) ∨ (c.toNat < 48 ∧ c.toNat = 45 ∧ nmB c = true) ∨ (c.toNat < 48 ∧ c.toNat ≠ 45 ∧ nmB c = false) := by
  unfold nmB
  by_cases a : 97 ≤ c.toNat <;> by_cases b : c.toNat ≤ 122 <;> by_cases d : 48 ≤ c.toNat <;> by_cases e : c.toNat ≤ 57 <;> by_cases f : c.toNat = 45 <;> simp [a, b, d, e, f] <;> omega

set_option maxHeartbeats 1600000 in
theorem inName_any (c : UInt8) (w : World) : Calls Try.prog 111 #[.int .u8 c.toNat] w fun e w' => e = .returned (.bool (nmB c)) ∧ w' = w := by
  have hcs := nmB_cases c
  generalize nmB c = B at *
  rcases hcs with ⟨g1, g2, rfl⟩ | ⟨g1, g2, rfl⟩ | ⟨g1, g2, g3, rfl⟩ | ⟨g1, g2, g3, rfl⟩ | ⟨g1, g2, rfl⟩ | ⟨g1, g2, rfl⟩
  · have j1 : (97 : Int) ≤ (c.toNat : Int) := by omega
    have j2 : (c.toNat : Int) ≤ 122 := by omega
    go_enter Try.func111, Try.ntmps111
    go_wp2
    go_ret
    exact ⟨rfl, rfl⟩
  · have j1 : (97 : Int) ≤ (c.toNat : Int) := by omega
    have j2 : ¬ (c.toNat : Int) ≤ 122 := by omega
    have j3 : (48 : Int) ≤ (c.toNat : Int) := by omega
    have j4 : ¬ (c.toNat : Int) ≤ 57 := by omega
    have j5 : ((c.toNat : Int) == 45) = false := beq_eq_false_iff_ne.2 (by omega)
    go_enter Try.func111, Try.ntmps111
    go_wp2
    go_ret
    exact ⟨rfl, rfl⟩
  · have j1 : ¬ (97 : Int) ≤ (c.toNat : Int) := by omega
    have j3 : (48 : Int) ≤ (c.toNat : Int) := by omega
    have j4 : (c.toNat : Int) ≤ 57 := by omega
    go_enter Try.func111, Try.ntmps111
    go_wp2
    go_ret
    exact ⟨rfl, rfl⟩
  · have j1 : ¬ (97 : Int) ≤ (c.toNat : Int) := by omega
    have j3 : (48 : Int) ≤ (c.toNat : Int) := by omega
    have j4 : ¬ (c.toNat : Int) ≤ 57 := by omega
    have j5 : ((c.toNat : Int) == 45) = false := beq_eq_false_iff_ne.2 (by omega)
    go_enter Try.func111, Try.ntmps111
    go_wp2
    go_ret
    exact ⟨rfl, rfl⟩
  · have j1 : ¬ (97 : Int) ≤ (c.toNat : Int) := by omega
    have j3 : ¬ (48 : Int) ≤ (c.toNat : Int) := by omega
    have j5 : ((c.toNat : Int) == 45) = true := beq_iff_eq.2 (by omega)
    go_enter Try.func111, Try.ntmps111
    go_wp2
    go_ret
    exact ⟨rfl, rfl⟩
  · have j1 : ¬ (97 : Int) ≤ (c.toNat : Int) := by omega
    have j3 : ¬ (48 : Int) ≤ (c.toNat : Int) := by omega
    have j5 : ((c.toNat : Int) == 45) = false := beq_eq_false_iff_ne.2 (by omega)
    go_enter Try.func111, Try.ntmps111
    go_wp2
    go_ret
    exact ⟨rfl, rfl⟩

set_option maxHeartbeats 1600000 in
set_option maxRecDepth 100000 in
theorem nameAt_any (s : ByteArray) (at_ : Nat) (w : World) (h : at_ ≤ s.size) (hm : s.size ≤ 400000) :
    Calls Try.prog 89 #[.string s, .int .i64 at_] w fun e w' => e = .returned (.int .i64 (runEnd nmB s.data.toList at_ : Nat)) ∧ w' = w := by
  have hG : Hid (runEnd nmB s.data.toList at_ = runEnd nmB s.data.toList at_) := hide rfl
  generalize hR : runEnd nmB s.data.toList at_ = R
  have HR := hide hR
  clear hR hG
  go_enter Try.func89, Try.ntmps89
  go_wp2_with fail
  go_loop [1] (fun i => ∃ k : Nat, k ≤ s.size ∧ i = .int .i64 k ∧ Hid (runEnd nmB s.data.toList k = R)) (fun i => s.size - (intOf i).toNat)
  case atStart => exact ⟨at_, h, rfl, HR⟩
  case round =>
    obtain ⟨k, hk, rfl, HK⟩ := hrel
    by_cases hlt : k < s.size
    · obtain ⟨c, hc⟩ : ∃ c, s.data.toList[k]? = some c := ⟨_, List.getElem?_eq_getElem (by rw [← Lib.size_eq]; exact hlt)⟩
      have ix := idx_str hc
      have HGO := hide (fun (hp : nmB c = true) => (runEnd_go hc hp).symm.trans HK.out)
      have HST := hide (fun (hp : nmB c = false) => (runEnd_stop hc hp).symm.trans HK.out)
      have HI := hide (fun w => inName_any c w)
      clear hc
      generalize nmB c = B at *
      cases B with
      | true =>
        go_wp2_with (go_at_call 111; refine (HI.out _).mono ?_; rintro e w' ⟨rfl, rfl⟩)
        go_round
        case rel => exact ⟨k + 1, hlt, by go_num, hide (HGO.out (by trivial))⟩
        case measure => simp [intOf]; omega
      | false =>
        have hR := HST.out (by trivial)
        subst hR
        go_wp2_with (go_at_call 111; refine (HI.out _).mono ?_; rintro e w' ⟨rfl, rfl⟩)
        go_ret
        exact ⟨rfl, rfl⟩
    · have hR : R = k := HK.out.symm.trans (runEnd_over (by rw [← Lib.size_eq]; omega))
      have hks : k = s.size := by omega
      subst hR hks
      go_wp2
      go_ret
      exact ⟨rfl, rfl⟩

/-- What fieldAt hands back. -/
def FldOut (s : ByteArray) (at_ : Nat) (w : World) (e : Ending) (w' : World) : Prop :=
  ∃ (name other : ByteArray) (has : Bool), e = .returned (.tuple #[.agg #[.string ⟨#[]⟩, .string name, .string other, .bool has], .int .i64 ((fld s.data.toList at_).1 : Nat), .bool (fld s.data.toList at_).2]) ∧ Below w.heap.size w w' ∧
    ((fld s.data.toList at_).2 = true → name = s.extract at_ (runEnd nmB s.data.toList at_))
/-- The two brackets behind a field. -/
theorem fld_tail {d : List UInt8} {at_ e : Nat} (h1 : runEnd nmB d at_ ≠ at_) (h2 : runEnd nmB d at_ - at_ ≤ 20) (he : fldEnd d (runEnd nmB d at_) = e) :
    (∀ k, k < 2 → (∀ j, j < k → d[e + j]? = some 125) → d[e + k]? ≠ some 125 → fld d at_ = (e + k, false)) ∧ (d[e + 0]? = some 125 → d[e + 1]? = some 125 → fld d at_ = (e + 2, true)) := by
  constructor
  · intro k hk hj hne
    unfold fld
    rw [if_neg h1, if_neg (by omega), he]
    have hk2 : k = 0 ∨ k = 1 := by omega
    rcases hk2 with rfl | rfl
    · rw [Nat.add_zero] at hne
      rw [if_pos hne]
      rfl
    · have h0 := hj 0 (by omega)
      rw [Nat.add_zero] at h0
      rw [if_neg (fun h => h h0), if_pos hne]
  · intro h0 h1'
    rw [Nat.add_zero] at h0
    unfold fld
    rw [if_neg h1, if_neg (by omega), he, if_neg (fun h => h h0), if_neg (fun h => h h1')]

theorem fld_ret {s : ByteArray} {at_ q : Nat} {ok : Bool} {w w' : World} (name other : ByteArray) (has : Bool) (h : fld s.data.toList at_ = (q, ok)) (hn : ok = true → name = s.extract at_ (runEnd nmB s.data.toList at_)) (hb : Below w.heap.size w w') :
    FldOut s at_ w (.returned (.tuple #[.agg #[.string ⟨#[]⟩, .string name, .string other, .bool has], .int .i64 (q : Nat), .bool ok])) w' := by
  unfold FldOut
  rw [h]
  exact ⟨name, other, has, rfl, hb, hn⟩
attribute [local go_sem high] run_min_i

set_option maxHeartbeats 12800000 in
set_option maxRecDepth 100000 in
theorem fieldAt_any (s : ByteArray) (at_ : Nat) (w : World) (h : at_ ≤ s.size) (hm : s.size ≤ 400000) :
    Calls Try.prog 64 #[.string s, .int .i64 at_] w (FldOut s at_ w) := by
  have HNA := hide (fun w => nameAt_any s at_ w h hm)
  have hge := runEnd_ge (p := nmB) (d := s.data.toList) (i := at_)
  have hle := runEnd_le (p := nmB) (d := s.data.toList) (i := at_) (by rw [← Lib.size_eq]; exact h)
  rw [← Lib.size_eq] at hle
  have HPO := hide (fun (q : Nat) (ok : Bool) (w' : World) (name other : ByteArray) (has : Bool) h hn hb => fld_ret (s := s) (at_ := at_) (q := q) (ok := ok) (w := w) (w' := w') name other has h hn hb)
  generalize FldOut s at_ w = PO at *
  by_cases h1 : runEnd nmB s.data.toList at_ = at_
  · have hf : fld s.data.toList at_ = (at_, false) := if_pos h1
    rw [h1] at HNA
    have HF := hide hf
    clear hge hle h1 hf
    have hmin : min (at_ : Int) ((at_ : Int) + 20) = (at_ : Int) := by omega
    go_enter Try.func64, Try.ntmps64
    go_wp2_with (go_at_call 89; refine (HNA.out _).mono ?_; rintro e w' ⟨rfl, rfl⟩)
    (try simp only [Exit.inBlock, Exit.then])
    refine bodyPost_ret (v := .tuple #[.agg #[.string ⟨#[]⟩, .string ⟨#[]⟩, .string ⟨#[]⟩, .bool false], .int .i64 (at_ : Nat), .bool false]) (by simp [results, Try.results64, go_sem]) rfl ?_
    exact HPO.out _ _ _ _ _ _ HF.out (fun h => by cases h) (by repeat (first | exact Below.refl _ _ | refine bl_plus ?_ | refine bl_alloc ?_ _ | refine bl_drew ?_ | refine bl_drewN ?_ _))
  by_cases h2 : 20 < runEnd nmB s.data.toList at_ - at_
  · have hf : fld s.data.toList at_ = (at_ + 20, false) := by unfold fld; rw [if_neg h1, if_pos h2]
    have HF := hide hf
    clear hf
    generalize runEnd nmB s.data.toList at_ = te at *
    have i1 : ((te : Int) == (at_ : Int)) = false := beq_eq_false_iff_ne.2 (by omega)
    have i2 : (20 : Int) < (te : Int) - (at_ : Int) := by omega
    have hmin : min (te : Int) ((at_ : Int) + 20) = (at_ : Int) + 20 := by omega
    go_enter Try.func64, Try.ntmps64
    go_wp2_with (go_at_call 89; refine (HNA.out _).mono ?_; rintro e w' ⟨rfl, rfl⟩)
    (try simp only [Exit.inBlock, Exit.then])
    refine bodyPost_ret (v := .tuple #[.agg #[.string ⟨#[]⟩, .string ⟨#[]⟩, .string ⟨#[]⟩, .bool false], .int .i64 ((at_ + 20 : Nat) : Int), .bool false]) (by simp [results, Try.results64, go_sem]) rfl ?_
    exact HPO.out _ _ _ _ _ _ HF.out (fun h => by cases h) (by repeat (first | exact Below.refl _ _ | refine bl_plus ?_ | refine bl_alloc ?_ _ | refine bl_drew ?_ | refine bl_drewN ?_ _))
  have hft := fun e he => fld_tail (e := e) h1 (by omega) he
  have hfe : ∀ te, fldEnd s.data.toList te = if s.data.toList[te]? = some 124 then runEnd (fun b => !stopB b) s.data.toList (te + 1) else te := fun te => rfl
  have hfe := hfe (runEnd nmB s.data.toList at_)
  generalize fldEnd s.data.toList (runEnd nmB s.data.toList at_) = E at *
  generalize runEnd nmB s.data.toList at_ = te at *
  generalize fld s.data.toList at_ = G at *
  have i1 : ((te : Int) == (at_ : Int)) = false := beq_eq_false_iff_ne.2 (by omega)
  have i2 : ¬ (20 : Int) < (te : Int) - (at_ : Int) := by omega
  have i4 : (at_ : Int) ≤ (te : Int) := by omega
  have i5 : (te : Int) ≤ (s.size : Int) := by omega
  rcases Nat.eq_or_lt_of_le hle with hend | hlt
  · rw [List.getElem?_eq_none (by rw [← Lib.size_eq]; omega), if_neg (fun h => by cases h)] at hfe
    obtain ⟨ht1, ht2⟩ := hft E rfl
    subst hfe
    have HT := hide ht1
    have HT2 := hide ht2
    clear hft ht1 ht2
    have i3 : decide (E < s.size) = false := decide_eq_false (by omega)
    have hEs : E ≤ s.size := by omega
    have HEND := hide hend
    clear hend
    go_enter Try.func64, Try.ntmps64
    go_wp2_with (go_at_call 89; refine (HNA.out _).mono ?_; rintro e w' ⟨rfl, rfl⟩)
    have i6 : ((E : Int) == (s.size : Int)) = true := beq_iff_eq.2 (by have := HEND.out; omega)
    have hres := HT.out 0 (by omega) (fun j hj => by omega) (by
      rw [Nat.add_zero, List.getElem?_eq_none (by rw [← Lib.size_eq]; have := HEND.out; omega)]
      exact fun h => by cases h)
    rw [Nat.add_zero] at hres
    clear hle
    go_loop [1, 75] (fun p q => q = .int .i64 0 ∧ p = .int .i64 (E : Int)) (fun _ _ => 0)
    case atStart => exact ⟨rfl, rfl⟩
    case round =>
      obtain ⟨rfl, rfl⟩ := hrel
      go_wp2
      (try simp only [Exit.inBlock, Exit.then])
      refine bodyPost_ret (v := .tuple #[.agg #[.string ⟨#[]⟩, .string (s.extract at_ E), .string ⟨#[]⟩, .bool false], .int .i64 (E : Int), .bool false]) (by simp [results, Try.results64, go_sem]) rfl ?_
      exact HPO.out _ _ _ _ _ _ hres (fun h => by cases h) (by repeat (first | exact Below.refl _ _ | refine bl_plus ?_ | refine bl_alloc ?_ _ | refine bl_drew ?_ | refine bl_drewN ?_ _))
  · obtain ⟨c, hc⟩ : ∃ c, s.data.toList[te]? = some c := ⟨_, List.getElem?_eq_getElem (by rw [← Lib.size_eq]; exact hlt)⟩
    have ix := idx_str hc
    have i3 : (te : Int) < (s.size : Int) := by omega
    by_cases h124 : c.toNat = 124
    · have hcc : c = 124 := UInt8.toNat_inj.1 h124
      rw [hc, hcc, if_pos rfl] at hfe
      obtain ⟨ht1, ht2⟩ := hft E rfl
      have HT := hide ht1
      have HT2 := hide ht2
      have j1 : ((c.toNat : Int) == 124) = true := beq_iff_eq.2 (by omega)
      have HFE := hide hfe
      clear hft ht1 ht2 hfe h124 hcc hc
      go_enter Try.func64, Try.ntmps64
      go_wp2_with (go_at_call 89; refine (HNA.out _).mono ?_; rintro e w' ⟨rfl, rfl⟩)
      clear ix
      go_loop [1] (fun i => ∃ k : Nat, k ≤ s.size ∧ te + 1 ≤ k ∧ i = .int .i64 k ∧ Hid (runEnd (fun b => !stopB b) s.data.toList k = E)) (fun i => s.size - (intOf i).toNat)
      case atStart => exact ⟨te + 1, by omega, by omega, by first | rfl | go_num, hide HFE.out.symm⟩
      case round =>
        obtain ⟨k, hk, hk1, rfl, HK⟩ := hrel
        by_cases hkl : k < s.size
        · obtain ⟨c2, hc2⟩ : ∃ c, s.data.toList[k]? = some c := ⟨_, List.getElem?_eq_getElem (by rw [← Lib.size_eq]; exact hkl)⟩
          have ix := idx_str hc2
          have j3 : (k : Int) < (s.size : Int) := by omega
          have hst : (stopB c2 = true ∧ (c2.toNat = 123 ∨ (c2.toNat ≠ 123 ∧ c2.toNat = 125) ∨ (c2.toNat ≠ 123 ∧ c2.toNat ≠ 125 ∧ c2.toNat = 10))) ∨ (stopB c2 = false ∧ c2.toNat ≠ 123 ∧ c2.toNat ≠ 125 ∧ c2.toNat ≠ 10) := by
            unfold stopB
            by_cases a : c2.toNat = 123 <;> by_cases b : c2.toNat = 125 <;> by_cases d : c2.toNat = 10 <;> simp [a, b, d]
          rcases hst with ⟨hs, hw⟩ | ⟨hs, n1, n2, n3⟩
          · have hE : k = E := (runEnd_stop hc2 (by simp only [hs]; rfl)).symm.trans HK.out
            subst hE
            clear hc2 hs HK HFE
            have hw2 : ((c2.toNat : Int) != 123) = false ∨ (((c2.toNat : Int) != 123) = true ∧ ((c2.toNat : Int) != 125) = false) ∨ (((c2.toNat : Int) != 123) = true ∧ ((c2.toNat : Int) != 125) = true ∧ ((c2.toNat : Int) != 10) = false) := by
              rcases hw with a | ⟨a, b⟩ | ⟨a, b, d⟩
              · exact .inl (bne_eq_false_iff_eq.2 (by omega))
              · exact .inr (.inl ⟨bne_iff_ne.2 (by omega), bne_eq_false_iff_eq.2 (by omega)⟩)
              · exact .inr (.inr ⟨bne_iff_ne.2 (by omega), bne_iff_ne.2 (by omega), bne_eq_false_iff_eq.2 (by omega)⟩)
            clear hw
            have j6 : ((te + 1 : Nat) : Int) ≤ (k : Int) := by omega
            rcases hw2 with m1 | ⟨m1, m2⟩ | ⟨m1, m2, m3⟩
            all_goals
              go_wp2
              clear ix
              go_loop [1, 75] (fun p q => ∃ u : Nat, u ≤ 2 ∧ q = .int .i64 u ∧ p = .int .i64 ((k + u : Nat) : Int) ∧ k + u ≤ s.size ∧ Hid (∀ j, j < u → s.data.toList[k + j]? = some 125)) (fun _ q => 2 - (intOf q).toNat)
              case atStart => exact ⟨0, by omega, rfl, by first | rfl | go_num, by omega, hide (fun j hj => by omega)⟩
              case round =>
                obtain ⟨u, hu, rfl, rfl, hle, HK⟩ := hrel
                by_cases hu2 : u < 2
                · have i1 : (u : Int) < 2 := by omega
                  rcases Nat.eq_or_lt_of_le hle with hend | hlt
                  · have i2 : (((k + u : Nat) : Int) == (s.size : Int)) = true := beq_iff_eq.2 (by omega)
                    have i2b : (((k : Int) + (u : Int)) == (s.size : Int)) = true := beq_iff_eq.2 (by omega)
                    have hn : s.data.toList[k + u]? = none := List.getElem?_eq_none (by rw [← Lib.size_eq]; omega)
                    have hres := HT.out u hu2 HK.out (by rw [hn]; exact fun h => by cases h)
                    clear hn hu hend
                    go_wp2
                    (try simp only [Exit.inBlock, Exit.then])
                    refine bodyPost_ret (v := .tuple #[.agg #[.string ⟨#[]⟩, .string (s.extract at_ te), .string (s.extract (te + 1) k), .bool true], .int .i64 ((k + u : Nat) : Int), .bool false]) (by simp [results, Try.results64, go_sem]) rfl ?_
                    exact HPO.out _ _ _ _ _ _ hres (fun h => by cases h) (by repeat (first | exact Below.refl _ _ | refine bl_plus ?_ | refine bl_alloc ?_ _ | refine bl_drew ?_ | refine bl_drewN ?_ _))
                  · have i2 : (((k + u : Nat) : Int) == (s.size : Int)) = false := beq_eq_false_iff_ne.2 (by omega)
                    have i2b : (((k : Int) + (u : Int)) == (s.size : Int)) = false := beq_eq_false_iff_ne.2 (by omega)
                    obtain ⟨c, hc⟩ : ∃ c, s.data.toList[k + u]? = some c := ⟨_, List.getElem?_eq_getElem (by rw [← Lib.size_eq]; exact hlt)⟩
                    have ix := idx_str hc
                    have ix2 := ix
                    have hcast : ((k + u : Nat) : Int) = (k : Int) + (u : Int) := by omega
                    simp only [hcast] at ix2
                    clear hcast
                    have HC := hide hc
                    clear hc
                    by_cases h125 : c.toNat = 125
                    · have i3 : ((c.toNat : Int) == 125) = true := beq_iff_eq.2 (by omega)
                      have HCC := hide (UInt8.toNat_inj.1 (h125.trans (show 125 = (125 : UInt8).toNat from rfl)))
                      clear h125
                      go_wp2
                      go_round
                      case rel => exact ⟨u + 1, by omega, by go_num, by go_num, by omega, hide (fun j hj => by
                        rcases Nat.lt_or_ge j u with g | g
                        · exact HK.out j g
                        · obtain rfl : j = u := by omega
                          rw [HC.out, HCC.out])⟩
                      case measure => simp [intOf]; omega
                    · have i3 : ((c.toNat : Int) == 125) = false := beq_eq_false_iff_ne.2 (by omega)
                      have hres := HT.out u hu2 HK.out (by
                        rw [HC.out]
                        intro h
                        injection h with h
                        rw [h] at h125
                        exact h125 rfl)
                      clear h125
                      go_wp2
                      (try simp only [Exit.inBlock, Exit.then])
                      refine bodyPost_ret (v := .tuple #[.agg #[.string ⟨#[]⟩, .string (s.extract at_ te), .string (s.extract (te + 1) k), .bool true], .int .i64 ((k + u : Nat) : Int), .bool false]) (by simp [results, Try.results64, go_sem]) rfl ?_
                      exact HPO.out _ _ _ _ _ _ hres (fun h => by cases h) (by repeat (first | exact Below.refl _ _ | refine bl_plus ?_ | refine bl_alloc ?_ _ | refine bl_drew ?_ | refine bl_drewN ?_ _))
                · obtain rfl : u = 2 := by omega
                  have hres := HT2.out (HK.out 0 (by omega)) (HK.out 1 (by omega))
                  go_wp2
                  (try simp only [Exit.inBlock, Exit.then])
                  refine bodyPost_ret (v := .tuple #[.agg #[.string ⟨#[]⟩, .string (s.extract at_ te), .string (s.extract (te + 1) k), .bool true], .int .i64 ((k + 2 : Nat) : Int), .bool true]) (by simp [results, Try.results64, go_sem]) rfl ?_
                  exact HPO.out _ _ _ _ _ _ hres (fun _ => rfl) (by repeat (first | exact Below.refl _ _ | refine bl_plus ?_ | refine bl_alloc ?_ _ | refine bl_drew ?_ | refine bl_drewN ?_ _))
          · have HGO := hide ((runEnd_go hc2 (by simp only [hs]; rfl)).symm.trans HK.out)
            have m1 : ((c2.toNat : Int) != 123) = true := bne_iff_ne.2 (by omega)
            have m2 : ((c2.toNat : Int) != 125) = true := bne_iff_ne.2 (by omega)
            have m3 : ((c2.toNat : Int) != 10) = true := bne_iff_ne.2 (by omega)
            clear hc2 hs n1 n2 n3
            go_wp2
            go_round
            case rel => exact ⟨k + 1, hkl, by omega, by go_num, HGO⟩
            case measure => simp [intOf]; omega
        · have hE : k = E := (runEnd_over (by rw [← Lib.size_eq]; omega)).symm.trans HK.out
          subst hE
          have j6 : ((te + 1 : Nat) : Int) ≤ (k : Int) := by omega
          have HEND := hide (show k = s.size by omega)
          have i8 : decide (k < s.size) = false := decide_eq_false hkl
          clear HK HFE hkl
          have hle : True := trivial
          go_wp2
          have i6 : ((k : Int) == (s.size : Int)) = true := beq_iff_eq.2 (by have := HEND.out; omega)
          have hres := HT.out 0 (by omega) (fun j hj => by omega) (by
            rw [Nat.add_zero, List.getElem?_eq_none (by rw [← Lib.size_eq]; have := HEND.out; omega)]
            exact fun h => by cases h)
          rw [Nat.add_zero] at hres
          clear hle
          go_loop [1, 75] (fun p q => q = .int .i64 0 ∧ p = .int .i64 (k : Int)) (fun _ _ => 0)
          case atStart => exact ⟨rfl, rfl⟩
          case round =>
            obtain ⟨rfl, rfl⟩ := hrel
            go_wp2
            (try simp only [Exit.inBlock, Exit.then])
            refine bodyPost_ret (v := .tuple #[.agg #[.string ⟨#[]⟩, .string (s.extract at_ te), .string (s.extract (te + 1) k), .bool true], .int .i64 (k : Int), .bool false]) (by simp [results, Try.results64, go_sem]) rfl ?_
            exact HPO.out _ _ _ _ _ _ hres (fun h => by cases h) (by repeat (first | exact Below.refl _ _ | refine bl_plus ?_ | refine bl_alloc ?_ _ | refine bl_drew ?_ | refine bl_drewN ?_ _))
    · rw [hc, if_neg (fun h => h124 (by injection h with h; rw [h]; rfl))] at hfe
      obtain ⟨ht1, ht2⟩ := hft E rfl
      subst hfe
      have HT := hide ht1
      have HT2 := hide ht2
      have j1 : ((c.toNat : Int) == 124) = false := beq_eq_false_iff_ne.2 (by omega)
      clear hft ht1 ht2 h124 hc
      go_enter Try.func64, Try.ntmps64
      go_wp2_with (go_at_call 89; refine (HNA.out _).mono ?_; rintro e w' ⟨rfl, rfl⟩)
      clear ix
      go_loop [1, 75] (fun p q => ∃ u : Nat, u ≤ 2 ∧ q = .int .i64 u ∧ p = .int .i64 ((E + u : Nat) : Int) ∧ E + u ≤ s.size ∧ Hid (∀ j, j < u → s.data.toList[E + j]? = some 125)) (fun _ q => 2 - (intOf q).toNat)
      case atStart => exact ⟨0, by omega, rfl, by first | rfl | go_num, by omega, hide (fun j hj => by omega)⟩
      case round =>
        obtain ⟨u, hu, rfl, rfl, hle, HK⟩ := hrel
        by_cases hu2 : u < 2
        · have i1 : (u : Int) < 2 := by omega
          rcases Nat.eq_or_lt_of_le hle with hend | hlt
          · have i2 : (((E + u : Nat) : Int) == (s.size : Int)) = true := beq_iff_eq.2 (by omega)
            have i2b : (((E : Int) + (u : Int)) == (s.size : Int)) = true := beq_iff_eq.2 (by omega)
            have hn : s.data.toList[E + u]? = none := List.getElem?_eq_none (by rw [← Lib.size_eq]; omega)
            have hres := HT.out u hu2 HK.out (by rw [hn]; exact fun h => by cases h)
            clear hn hu hend
            go_wp2
            (try simp only [Exit.inBlock, Exit.then])
            refine bodyPost_ret (v := .tuple #[.agg #[.string ⟨#[]⟩, .string (s.extract at_ E), .string ⟨#[]⟩, .bool false], .int .i64 ((E + u : Nat) : Int), .bool false]) (by simp [results, Try.results64, go_sem]) rfl ?_
            exact HPO.out _ _ _ _ _ _ hres (fun h => by cases h) (by repeat (first | exact Below.refl _ _ | refine bl_plus ?_ | refine bl_alloc ?_ _ | refine bl_drew ?_ | refine bl_drewN ?_ _))
          · have i2 : (((E + u : Nat) : Int) == (s.size : Int)) = false := beq_eq_false_iff_ne.2 (by omega)
            have i2b : (((E : Int) + (u : Int)) == (s.size : Int)) = false := beq_eq_false_iff_ne.2 (by omega)
            obtain ⟨c, hc⟩ : ∃ c, s.data.toList[E + u]? = some c := ⟨_, List.getElem?_eq_getElem (by rw [← Lib.size_eq]; exact hlt)⟩
            have ix := idx_str hc
            have ix2 := ix
            have hcast : ((E + u : Nat) : Int) = (E : Int) + (u : Int) := by omega
            simp only [hcast] at ix2
            clear hcast
            have HC := hide hc
            clear hc
            by_cases h125 : c.toNat = 125
            · have i3 : ((c.toNat : Int) == 125) = true := beq_iff_eq.2 (by omega)
              have HCC := hide (UInt8.toNat_inj.1 (h125.trans (show 125 = (125 : UInt8).toNat from rfl)))
              clear h125
              go_wp2
              go_round
              case rel => exact ⟨u + 1, by omega, by go_num, by go_num, by omega, hide (fun j hj => by
                rcases Nat.lt_or_ge j u with g | g
                · exact HK.out j g
                · obtain rfl : j = u := by omega
                  rw [HC.out, HCC.out])⟩
              case measure => simp [intOf]; omega
            · have i3 : ((c.toNat : Int) == 125) = false := beq_eq_false_iff_ne.2 (by omega)
              have hres := HT.out u hu2 HK.out (by
                rw [HC.out]
                intro h
                injection h with h
                rw [h] at h125
                exact h125 rfl)
              clear h125
              go_wp2
              (try simp only [Exit.inBlock, Exit.then])
              refine bodyPost_ret (v := .tuple #[.agg #[.string ⟨#[]⟩, .string (s.extract at_ E), .string ⟨#[]⟩, .bool false], .int .i64 ((E + u : Nat) : Int), .bool false]) (by simp [results, Try.results64, go_sem]) rfl ?_
              exact HPO.out _ _ _ _ _ _ hres (fun h => by cases h) (by repeat (first | exact Below.refl _ _ | refine bl_plus ?_ | refine bl_alloc ?_ _ | refine bl_drew ?_ | refine bl_drewN ?_ _))
        · obtain rfl : u = 2 := by omega
          have hres := HT2.out (HK.out 0 (by omega)) (HK.out 1 (by omega))
          go_wp2
          (try simp only [Exit.inBlock, Exit.then])
          refine bodyPost_ret (v := .tuple #[.agg #[.string ⟨#[]⟩, .string (s.extract at_ E), .string ⟨#[]⟩, .bool false], .int .i64 ((E + 2 : Nat) : Int), .bool true]) (by simp [results, Try.results64, go_sem]) rfl ?_
          exact HPO.out _ _ _ _ _ _ hres (fun _ => rfl) (by repeat (first | exact Below.refl _ _ | refine bl_plus ?_ | refine bl_alloc ?_ _ | refine bl_drew ?_ | refine bl_drewN ?_ _))

end Go.Proofs.Ytpbkidjbbhkjnaa
