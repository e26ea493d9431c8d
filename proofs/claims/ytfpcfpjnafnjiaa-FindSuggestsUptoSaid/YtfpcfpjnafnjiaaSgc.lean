/-
  WALK: the postings of a term are right.
-/
import Derived.Test.YtfpcfpjnafnjiaaSga
import Derived.Test.YtfpcfpjnafnjiaaSnb
import Derived.Deep.CutBlock
import Derived.Deep.QuietTactic
import Derived.BigQuiet
import Derived.WalkLawsBesides
import Derived.Maps.OwnOps
set_option linter.all false
namespace Go.Proofs.Ytfpcfpjnafnjiaa
open Go.RowKit Go.Lib Go.Maps

theorem keyI : Keyed Try.prog 3 := int_keyed Try.underlying3
theorem zeroI (w : World) : (zeroValue 3).run Try.prog w = .ok (.int .i64 0) w := by kernel_rfl
theorem own_below {H : Type} {P : Program} {k : TypeId} {R : Value → Option (DataW H × List MemPlace)} {w w' : World} {b n : Nat} {D : DataW H} (h : w.ownsMap P k R b n D) (hb : Below w.heap.size w w') : w'.ownsMap P k R b n D := by
  have hlt := h.lt
  obtain ⟨es, clock, h1, F, hs, hD⟩ := h
  exact ⟨es, clock, (hb.block b hlt).trans h1, F, hs, hD⟩

/-! ### The sizes that the map holds -/
def stepE (D : DataW Unit) (e : En) : DataW Unit := D.put (kI e.id) (.lit (.int .i64 e.sz))
def SizesIn (D : DataW Unit) : Prop := IsMap D ∧ ∀ n : Int, ∃ c : Int, D.atKey (kI n) (.lit (.int .i64 0)) = .lit (.int .i64 c) ∧ 0 ≤ c ∧ c ≤ 2000
theorem fold_sizes : ∀ (l : List En) (D : DataW Unit), SizesIn D → (∀ e ∈ l, 0 ≤ e.sz ∧ e.sz ≤ 2000) → SizesIn (l.foldl stepE D)
  | [], D, h, _ => h
  | e :: l, D, h, hl => by
    rw [List.foldl_cons]
    refine fold_sizes l _ ⟨h.1.put _ _, fun n => ?_⟩ (fun x hx => hl x (List.mem_cons_of_mem _ hx))
    unfold stepE
    by_cases hn : kI n = kI e.id
    · rw [hn, atKey_put_same h.1 (show WideAt.IsKeyLit (kI e.id) from trivial)]
      exact ⟨e.sz, rfl, hl e List.mem_cons_self⟩
    · rw [atKey_put_other hn]
      exact h.2 n
theorem mapE_range (l : List En) (h : ∀ e ∈ l, 0 ≤ e.sz ∧ e.sz ≤ 2000) (n : Int) : ∃ c : Int, (mapE l).atKey (kI n) (.lit (.int .i64 0)) = .lit (.int .i64 c) ∧ 0 ≤ c ∧ c ≤ 2000 :=
  (fold_sizes l (.map []) ⟨isMap_empty, fun _ => ⟨0, rfl, by omega, by omega⟩⟩ h).2 n
theorem sizeE_range {l : List En} (h : ∀ e ∈ l, 0 ≤ e.sz ∧ e.sz ≤ 2000) (n : Int) : 0 ≤ sizeE l n ∧ sizeE l n ≤ 2000 := by
  obtain ⟨c, h1, h2, h3⟩ := mapE_range l h n
  rw [sizeE_of h1]
  exact ⟨h2, h3⟩
theorem ents_sizes {l : List En} (h : entsErr l = 0) : ∀ e ∈ l, 0 ≤ e.sz ∧ e.sz ≤ 2000 := by
  intro e he
  obtain ⟨j, hj, rfl⟩ := List.mem_iff_getElem.1 he
  unfold entsErr at h
  split at h
  · cases h
  · have := firstE_zero h j hj
    rcases entErr_cases hj with ⟨_, h2⟩ | ⟨_, ⟨_, _, h2⟩ | ⟨_, ⟨_, h2⟩ | ⟨h2, _⟩⟩⟩
    · omega
    · omega
    · omega
    · exact h2

/-! ### What a posting is wrong with, case by case -/
theorem postErr_cases {E : List En} {l : List Po} {k : Nat} (hk : k < l.length) :
    (hasE E l[k].id = false ∧ postErr E l k = 7) ∨ (hasE E l[k].id = true ∧
      ((0 < k ∧ l[k].id ≤ (gP l (k - 1)).id ∧ postErr E l k = 5) ∨ ((k = 0 ∨ (gP l (k - 1)).id < l[k].id) ∧
        ((l[k].ns.length = 0 ∧ postErr E l k = 1) ∨ (l[k].ns.length ≠ 0 ∧ postErr E l k = nsErr (sizeE E l[k].id) l[k].ns))))) := by
  unfold postErr
  rw [gP_eq hk]
  by_cases h1 : hasE E l[k].id = false
  · exact .inl ⟨h1, if_pos h1⟩
  · rw [if_neg h1]
    refine .inr ⟨by simpa using h1, ?_⟩
    by_cases h2 : 0 < k ∧ l[k].id ≤ (gP l (k - 1)).id
    · exact .inl ⟨h2.1, h2.2, if_pos h2⟩
    · rw [if_neg h2]
      refine .inr ⟨by omega, ?_⟩
      by_cases h3 : l[k].ns.length = 0
      · exact .inl ⟨h3, if_pos h3⟩
      · exact .inr ⟨h3, if_neg h3⟩
theorem nsErr_far {sz : Int} {l : List Int} {k : Nat} (hk : k < l.length) (h : farE sz l k ≠ 0) : nsErr sz l = 2 := by
  unfold nsErr
  rw [if_pos (fun h0 => h (firstE_zero h0 k hk))]
theorem nsErr_fall {sz : Int} {l : List Int} {k : Nat} (h0 : ∀ j, j < l.length → farE sz l j = 0) (hk : k < l.length - 1) (h1 : ∀ j, j < k → fallE l j = 0) (h : fallE l k = 5) : nsErr sz l = 5 := by
  unfold nsErr
  rw [if_neg (fun hh => hh (firstE_none h0)), firstE_first h1 (by omega) hk, h]
theorem nsErr_none {sz : Int} {l : List Int} (h0 : ∀ j, j < l.length → farE sz l j = 0) (h1 : ∀ j, j < l.length - 1 → fallE l j = 0) : nsErr sz l = 0 := by
  unfold nsErr
  rw [if_neg (fun hh => hh (firstE_none h0)), firstE_none h1]

set_option maxHeartbeats 12800000 in
set_option maxRecDepth 100000 in
theorem checkPostings_any (E : List En) (hE0 : entsErr E = 0) (l : List Po) (A : Option Addr) (c : Nat) (mb mn : Nat) (w : World) (hA : PosAt w A l) (hM : w.ownsMap Try.prog 3 (plainElem Try.prog 3) mb mn (mapE E)) :
    Calls Try.prog 29 #[.slice A l.length c, .map (some mb)] w fun e w' => e = .returned (.int .i64 (firstE (postErr E l) l.length)) ∧ Below w.heap.size w w' := by
  have hm := hA.1
  unfold maxLen at hm
  have HSZ := hide (sizeE_range (ents_sizes hE0))
  have HN := hide (fun h => firstE_none (f := postErr E l) (n := l.length) h)
  have HF := hide (fun k h hne hk => firstE_first (f := postErr E l) (k := k) h hne (n := l.length) hk)
  have HA := hide hA
  have HMAP := hide hM
  clear hA hM hE0
  generalize firstE (postErr E l) l.length = R at *
  go_enter Try.func29, Try.ntmps29
  go_wp2
  go_loopw [14] (fun i wr => ∃ (k : Nat) (os : Array Obj) (n : Nat), k ≤ l.length ∧ i = .int .i64 k ∧ Hid (∀ j, j < k → postErr E l j = 0) ∧ wr = plus w os n) (fun i _ => l.length - (RowKit.intOf i).toNat)
  case atStart => exact ⟨0, #[], _, Nat.zero_le _, rfl, hide (fun j hj => by omega), plus_nil.symm⟩
  case round =>
    obtain ⟨q, os, n, hq, rfl, HK, rfl⟩ := hrel
    by_cases hlt : q < l.length
    · obtain ⟨b, o, rfl, hb, hv⟩ := HA.out.2 (by omega)
      have hf : postErr E l q ≠ 0 → R = postErr E l q := fun h => HF.out q HK.out h hlt
      have HNXT := hide (fun (h : postErr E l q = 0) j (hj : j < q + 1) => (by
        rcases Nat.lt_or_ge j q with g | g
        · exact HK.out j g
        · obtain rfl : j = q := by omega
          exact h : postErr E l j = 0))
      obtain ⟨c0, hkw, A2, e2, c1, hL2⟩ := hv q hlt
      have hcs := postErr_cases (E := E) hlt
      have HL2 := hide hL2
      have HKEY := hide (keyOf_int_mk (P := Try.prog) Try.underlying3 hkw)
      have HV := hide hv
      clear hv HK HA HN HF hL2 hkw
      rcases Nat.eq_zero_or_pos q with hq0 | hq0
      · have hg : decide (0 < q) = false := decide_eq_false (by omega)
        clear HV
        generalize postErr E l q = er at *
        generalize gP l (q - 1) = z at *
        generalize l[q] = x at *
        obtain ⟨xid, xns⟩ := x
        simp only at c0 c1 hcs HL2 HKEY
        rcases hcs with ⟨hh, hE⟩ | ⟨hh, HCS⟩
        · clear hq0; obtain rfl := hf (by omega)
          subst hE
          unfold hasE at hh
          go_wp2_with (at_lookup; refine wpList_lookup_own_ok_int _ rfl _ _ 64 rfl 3 3 .i64 keyI Try.underlying64 Try.underlying3 (zeroI _) mb mn (mapE E) rfl (own_below HMAP.out (by repeat (first | exact Below.refl _ _ | refine bl_plus ?_ | refine bl_alloc ?_ _ | refine bl_drew ?_ | refine bl_drewN ?_ _))) _ (kI xid) rfl HKEY.out ?_; intro csz hat hwc; have hsz := sizeE_of hat; clear hat hwc)
          go_ret
          exact ⟨rfl, (by repeat (first | exact Below.refl _ _ | refine bl_plus ?_ | refine bl_alloc ?_ _ | refine bl_drew ?_ | refine bl_drewN ?_ _))⟩
        unfold hasE at hh
        rcases HCS with ⟨hlt0, _, _⟩ | ⟨hgt, HCS⟩
        · exact absurd hlt0 (by omega)
        clear hgt hq0
        rcases HCS with ⟨hn0, hE⟩ | ⟨hn0, hE⟩
        · obtain rfl := hf (by omega)
          subst hE
          go_upto_region 7 with (at_lookup; refine wpList_lookup_own_ok_int _ rfl _ _ 64 rfl 3 3 .i64 keyI Try.underlying64 Try.underlying3 (zeroI _) mb mn (mapE E) rfl (own_below HMAP.out (by repeat (first | exact Below.refl _ _ | refine bl_plus ?_ | refine bl_alloc ?_ _ | refine bl_drew ?_ | refine bl_drewN ?_ _))) _ (kI xid) rfl HKEY.out ?_; intro csz hat hwc; have hsz := sizeE_of hat; clear hat hwc)
          go_quiet (fail)
          go_wp2
          go_ret
          exact ⟨rfl, (by repeat (first | exact Below.refl _ _ | refine bl_plus ?_ | refine bl_alloc ?_ _ | refine bl_drew ?_ | refine bl_drewN ?_ _))⟩
        have i0 : ((xns.length : Int) == 0) = false := beq_eq_false_iff_ne.2 (by omega)
        have hsz2 := HSZ.out xid
        have hln := HL2.out.1
        unfold maxLen at hln
        go_upto_region 7 with (at_lookup; refine wpList_lookup_own_ok_int _ rfl _ _ 64 rfl 3 3 .i64 keyI Try.underlying64 Try.underlying3 (zeroI _) mb mn (mapE E) rfl (own_below HMAP.out (by repeat (first | exact Below.refl _ _ | refine bl_plus ?_ | refine bl_alloc ?_ _ | refine bl_drew ?_ | refine bl_drewN ?_ _))) _ (kI xid) rfl HKEY.out ?_; intro csz hat hwc; have hsz := sizeE_of hat; clear hat hwc)
        go_quiet (fail)
        rw [hsz] at hsz2 hE
        obtain ⟨s1, s2⟩ := hsz2
        go_wp2
        clear hsz HKEY HMAP HSZ c0 c1
        go_loopw [51] (fun i wr => ∃ (k n2 : Nat), k ≤ xns.length ∧ i = .int .i64 k ∧ Hid (∀ j, j < k → farE csz xns j = 0) ∧ wr = ((plus w os n).alloc (.cells #[.int .i64 xid, .slice A2 xns.length e2] 74)).drewN n2) (fun i _ => xns.length - (RowKit.intOf i).toNat)
        case atStart => exact ⟨0, _, Nat.zero_le _, rfl, hide (fun j hj => by omega), rfl⟩
        case round =>
          obtain ⟨k, n2, hk, rfl, HFK, rfl⟩ := hrel
          by_cases hlt2 : k < xns.length
          · obtain ⟨b3, o3, rfl, hb3, hv3⟩ := HL2.out.2 (by omega)
            have e0 := hv3 k hlt2
            have hfar : farE csz xns k = if xns[k] < 0 ∨ csz ≤ xns[k] then 2 else 0 := by
              unfold farE
              rw [gN_eq hlt2]
            clear hv3
            by_cases hbad : xns[k] < 0 ∨ csz ≤ xns[k]
            · have h2 : er = 2 := hE.trans (nsErr_far hlt2 (by rw [hfar, if_pos hbad]; decide))
              have HO1 := hide (fun w => outside_yes xns[k] 0 (csz - 1) w (by omega))
              obtain rfl := hf (by omega)
              subst h2
              clear hE hfar HFK hbad
              generalize xns[k] = y at *
              go_wp2_with (go_at_call 31; refine (HO1.out _).mono ?_; rintro e w' ⟨rfl, rfl⟩)
              go_ret
              exact ⟨rfl, (by repeat (first | exact Below.refl _ _ | refine bl_plus ?_ | refine bl_alloc ?_ _ | refine bl_drew ?_ | refine bl_drewN ?_ _))⟩
            · have HO1 := hide (fun w => outside_no xns[k] 0 (csz - 1) w (by omega) (by omega))
              rw [if_neg hbad] at hfar
              have HF2 := hide (fun j (hj : j < k + 1) => (by
                rcases Nat.lt_or_ge j k with g | g
                · exact HFK.out j g
                · obtain rfl : j = k := by omega
                  exact hfar : farE csz xns j = 0))
              clear hfar HFK hbad
              generalize xns[k] = y at *
              go_wp2_with (go_at_call 31; refine (HO1.out _).mono ?_; rintro e w' ⟨rfl, rfl⟩)
              go_roundw
              case rel => exact ⟨k + 1, _, hlt2, by go_num, HF2, rfl⟩
              case measure => simp [RowKit.intOf]; omega
          · obtain rfl : k = xns.length := by omega
            have HFA := HFK
            clear HFK hlt2 hk
            go_wp2
            go_loopw [11] (fun i wr => ∃ (k n3 : Nat), k ≤ xns.length - 1 ∧ i = .int .i64 ((k + 1 : Nat) : Int) ∧ Hid (∀ j, j < k → fallE xns j = 0) ∧ wr = ((plus w os n).alloc (.cells #[.int .i64 xid, .slice A2 xns.length e2] 74)).drewN n3) (fun i _ => xns.length - (RowKit.intOf i).toNat)
            case atStart => exact ⟨0, _, Nat.zero_le _, rfl, hide (fun j hj => by omega), rfl⟩
            case round =>
              obtain ⟨k, n3, hk, rfl, HFK, rfl⟩ := hrel
              by_cases hlt2 : k + 1 < xns.length
              · obtain ⟨b3, o3, rfl, hb3, hv3⟩ := HL2.out.2 (by omega)
                have e0 := hv3 k (by omega)
                have e1 := hv3 (k + 1) hlt2
                have hfall : fallE xns k = if xns[k + 1] ≤ xns[k] then 5 else 0 := by
                  unfold fallE
                  rw [gN_eq hlt2, gN_eq (show k < xns.length by omega)]
                have j1 : ((k + 1 : Nat) : Int) < (xns.length : Int) := by omega
                clear hv3
                by_cases hbad : xns[k + 1] ≤ xns[k]
                · have h2 : er = 5 := hE.trans (nsErr_fall HFA.out (show k < xns.length - 1 by omega) HFK.out (by rw [hfall, if_pos hbad]))
                  obtain rfl := hf (by omega)
                  subst h2
                  clear hE hfall HFK HFA
                  generalize xns[k] = y at *
                  generalize xns[k + 1] = z2 at *
                  go_wp2
                  go_quiet (fail)
                  go_wp2
                  go_ret
                  exact ⟨rfl, (by repeat (first | exact Below.refl _ _ | refine bl_plus ?_ | refine bl_alloc ?_ _ | refine bl_drew ?_ | refine bl_drewN ?_ _))⟩
                · rw [if_neg hbad] at hfall
                  have HF2 := hide (fun j (hj : j < k + 1) => (by
                    rcases Nat.lt_or_ge j k with g | g
                    · exact HFK.out j g
                    · obtain rfl : j = k := by omega
                      exact hfall : fallE xns j = 0))
                  clear hfall HFK
                  generalize xns[k] = y at *
                  generalize xns[k + 1] = z2 at *
                  go_wp2
                  go_quiet (fail)
                  go_wp2
                  go_roundw
                  case rel => exact ⟨k + 1, _, by omega, by go_num, HF2, rfl⟩
                  case measure => simp [RowKit.intOf]; omega
              · have h2 : er = 0 := hE.trans (nsErr_none HFA.out (fun j hj => HFK.out j (by omega)))
                have j1 : ¬ ((k + 1 : Nat) : Int) < (xns.length : Int) := by omega
                clear hE
                go_wp2
                go_roundw
                case rel => exact ⟨q + 1, _, _, hlt, by go_num, hide (HNXT.out h2), by first | (rw [plus_alloc, plus_drewN]) | rfl | (simp only [plus_alloc, plus_plus, plus_drewN, plus_drew]; rfl) | (rw [plus_alloc, plus_plus])⟩
                case measure => simp [RowKit.intOf]; omega
      · obtain ⟨m, rfl⟩ : ∃ m, q = m + 1 := ⟨q - 1, by omega⟩
        rw [show m + 1 - 1 = m from rfl, gP_eq (show m < l.length by omega)] at hcs
        have d0 := (HV.out m (by omega)).1
        have hg : (0 : Int) < ((m + 1 : Nat) : Int) := by omega
        clear HV hq0
        generalize postErr E l (m + 1) = er at *
        generalize l[m + 1] = x at *
        generalize l[m] = z at *
        obtain ⟨xid, xns⟩ := x
        obtain ⟨zid, zns⟩ := z
        simp only at c0 c1 d0 hcs HL2 HKEY
        rcases hcs with ⟨hh, hE⟩ | ⟨hh, HCS⟩
        · obtain rfl := hf (by omega)
          subst hE
          unfold hasE at hh
          go_wp2_with (at_lookup; refine wpList_lookup_own_ok_int _ rfl _ _ 64 rfl 3 3 .i64 keyI Try.underlying64 Try.underlying3 (zeroI _) mb mn (mapE E) rfl (own_below HMAP.out (by repeat (first | exact Below.refl _ _ | refine bl_plus ?_ | refine bl_alloc ?_ _ | refine bl_drew ?_ | refine bl_drewN ?_ _))) _ (kI xid) rfl HKEY.out ?_; intro csz hat hwc; have hsz := sizeE_of hat; clear hat hwc)
          go_ret
          exact ⟨rfl, (by repeat (first | exact Below.refl _ _ | refine bl_plus ?_ | refine bl_alloc ?_ _ | refine bl_drew ?_ | refine bl_drewN ?_ _))⟩
        unfold hasE at hh
        rcases HCS with ⟨hlt0, hle, hE⟩ | ⟨hgt, HCS⟩
        · obtain rfl := hf (by omega)
          subst hE
          clear hlt0
          go_upto_region 7 with (at_lookup; refine wpList_lookup_own_ok_int _ rfl _ _ 64 rfl 3 3 .i64 keyI Try.underlying64 Try.underlying3 (zeroI _) mb mn (mapE E) rfl (own_below HMAP.out (by repeat (first | exact Below.refl _ _ | refine bl_plus ?_ | refine bl_alloc ?_ _ | refine bl_drew ?_ | refine bl_drewN ?_ _))) _ (kI xid) rfl HKEY.out ?_; intro csz hat hwc; have hsz := sizeE_of hat; clear hat hwc)
          go_quiet (fail)
          go_wp2
          go_ret
          exact ⟨rfl, (by repeat (first | exact Below.refl _ _ | refine bl_plus ?_ | refine bl_alloc ?_ _ | refine bl_drew ?_ | refine bl_drewN ?_ _))⟩
        have hgt2 : ¬ xid ≤ zid := by omega
        clear hgt
        rcases HCS with ⟨hn0, hE⟩ | ⟨hn0, hE⟩
        · obtain rfl := hf (by omega)
          subst hE
          go_upto_region 7 with (at_lookup; refine wpList_lookup_own_ok_int _ rfl _ _ 64 rfl 3 3 .i64 keyI Try.underlying64 Try.underlying3 (zeroI _) mb mn (mapE E) rfl (own_below HMAP.out (by repeat (first | exact Below.refl _ _ | refine bl_plus ?_ | refine bl_alloc ?_ _ | refine bl_drew ?_ | refine bl_drewN ?_ _))) _ (kI xid) rfl HKEY.out ?_; intro csz hat hwc; have hsz := sizeE_of hat; clear hat hwc)
          go_quiet (fail)
          go_wp2
          go_ret
          exact ⟨rfl, (by repeat (first | exact Below.refl _ _ | refine bl_plus ?_ | refine bl_alloc ?_ _ | refine bl_drew ?_ | refine bl_drewN ?_ _))⟩
        have i0 : ((xns.length : Int) == 0) = false := beq_eq_false_iff_ne.2 (by omega)
        have hsz2 := HSZ.out xid
        have hln := HL2.out.1
        unfold maxLen at hln
        go_upto_region 7 with (at_lookup; refine wpList_lookup_own_ok_int _ rfl _ _ 64 rfl 3 3 .i64 keyI Try.underlying64 Try.underlying3 (zeroI _) mb mn (mapE E) rfl (own_below HMAP.out (by repeat (first | exact Below.refl _ _ | refine bl_plus ?_ | refine bl_alloc ?_ _ | refine bl_drew ?_ | refine bl_drewN ?_ _))) _ (kI xid) rfl HKEY.out ?_; intro csz hat hwc; have hsz := sizeE_of hat; clear hat hwc)
        go_quiet (fail)
        rw [hsz] at hsz2 hE
        obtain ⟨s1, s2⟩ := hsz2
        go_wp2
        clear hsz HKEY HMAP HSZ c0 c1
        go_loopw [51] (fun i wr => ∃ (k n2 : Nat), k ≤ xns.length ∧ i = .int .i64 k ∧ Hid (∀ j, j < k → farE csz xns j = 0) ∧ wr = ((plus w os n).alloc (.cells #[.int .i64 xid, .slice A2 xns.length e2] 74)).drewN n2) (fun i _ => xns.length - (RowKit.intOf i).toNat)
        case atStart => exact ⟨0, _, Nat.zero_le _, rfl, hide (fun j hj => by omega), rfl⟩
        case round =>
          obtain ⟨k, n2, hk, rfl, HFK, rfl⟩ := hrel
          by_cases hlt2 : k < xns.length
          · obtain ⟨b3, o3, rfl, hb3, hv3⟩ := HL2.out.2 (by omega)
            have e0 := hv3 k hlt2
            have hfar : farE csz xns k = if xns[k] < 0 ∨ csz ≤ xns[k] then 2 else 0 := by
              unfold farE
              rw [gN_eq hlt2]
            clear hv3
            by_cases hbad : xns[k] < 0 ∨ csz ≤ xns[k]
            · have h2 : er = 2 := hE.trans (nsErr_far hlt2 (by rw [hfar, if_pos hbad]; decide))
              have HO1 := hide (fun w => outside_yes xns[k] 0 (csz - 1) w (by omega))
              obtain rfl := hf (by omega)
              subst h2
              clear hE hfar HFK hbad
              generalize xns[k] = y at *
              go_wp2_with (go_at_call 31; refine (HO1.out _).mono ?_; rintro e w' ⟨rfl, rfl⟩)
              go_ret
              exact ⟨rfl, (by repeat (first | exact Below.refl _ _ | refine bl_plus ?_ | refine bl_alloc ?_ _ | refine bl_drew ?_ | refine bl_drewN ?_ _))⟩
            · have HO1 := hide (fun w => outside_no xns[k] 0 (csz - 1) w (by omega) (by omega))
              rw [if_neg hbad] at hfar
              have HF2 := hide (fun j (hj : j < k + 1) => (by
                rcases Nat.lt_or_ge j k with g | g
                · exact HFK.out j g
                · obtain rfl : j = k := by omega
                  exact hfar : farE csz xns j = 0))
              clear hfar HFK hbad
              generalize xns[k] = y at *
              go_wp2_with (go_at_call 31; refine (HO1.out _).mono ?_; rintro e w' ⟨rfl, rfl⟩)
              go_roundw
              case rel => exact ⟨k + 1, _, hlt2, by go_num, HF2, rfl⟩
              case measure => simp [RowKit.intOf]; omega
          · obtain rfl : k = xns.length := by omega
            have HFA := HFK
            clear HFK hlt2 hk
            go_wp2
            go_loopw [11] (fun i wr => ∃ (k n3 : Nat), k ≤ xns.length - 1 ∧ i = .int .i64 ((k + 1 : Nat) : Int) ∧ Hid (∀ j, j < k → fallE xns j = 0) ∧ wr = ((plus w os n).alloc (.cells #[.int .i64 xid, .slice A2 xns.length e2] 74)).drewN n3) (fun i _ => xns.length - (RowKit.intOf i).toNat)
            case atStart => exact ⟨0, _, Nat.zero_le _, rfl, hide (fun j hj => by omega), rfl⟩
            case round =>
              obtain ⟨k, n3, hk, rfl, HFK, rfl⟩ := hrel
              by_cases hlt2 : k + 1 < xns.length
              · obtain ⟨b3, o3, rfl, hb3, hv3⟩ := HL2.out.2 (by omega)
                have e0 := hv3 k (by omega)
                have e1 := hv3 (k + 1) hlt2
                have hfall : fallE xns k = if xns[k + 1] ≤ xns[k] then 5 else 0 := by
                  unfold fallE
                  rw [gN_eq hlt2, gN_eq (show k < xns.length by omega)]
                have j1 : ((k + 1 : Nat) : Int) < (xns.length : Int) := by omega
                clear hv3
                by_cases hbad : xns[k + 1] ≤ xns[k]
                · have h2 : er = 5 := hE.trans (nsErr_fall HFA.out (show k < xns.length - 1 by omega) HFK.out (by rw [hfall, if_pos hbad]))
                  obtain rfl := hf (by omega)
                  subst h2
                  clear hE hfall HFK HFA
                  generalize xns[k] = y at *
                  generalize xns[k + 1] = z2 at *
                  go_wp2
                  go_quiet (fail)
                  go_wp2
                  go_ret
                  exact ⟨rfl, (by repeat (first | exact Below.refl _ _ | refine bl_plus ?_ | refine bl_alloc ?_ _ | refine bl_drew ?_ | refine bl_drewN ?_ _))⟩
                · rw [if_neg hbad] at hfall
                  have HF2 := hide (fun j (hj : j < k + 1) => (by
                    rcases Nat.lt_or_ge j k with g | g
                    · exact HFK.out j g
                    · obtain rfl : j = k := by omega
                      exact hfall : fallE xns j = 0))
                  clear hfall HFK
                  generalize xns[k] = y at *
                  generalize xns[k + 1] = z2 at *
                  go_wp2
                  go_quiet (fail)
                  go_wp2
                  go_roundw
                  case rel => exact ⟨k + 1, _, by omega, by go_num, HF2, rfl⟩
                  case measure => simp [RowKit.intOf]; omega
              · have h2 : er = 0 := hE.trans (nsErr_none HFA.out (fun j hj => HFK.out j (by omega)))
                have j1 : ¬ ((k + 1 : Nat) : Int) < (xns.length : Int) := by omega
                clear hE
                go_wp2
                go_roundw
                case rel => exact ⟨m + 2, _, _, hlt, by go_num, hide (HNXT.out h2), by first | (rw [plus_alloc, plus_drewN]) | rfl | (simp only [plus_alloc, plus_plus, plus_drewN, plus_drew]; rfl) | (rw [plus_alloc, plus_plus])⟩
                case measure => simp [RowKit.intOf]; omega
    · have hR : R = 0 := HN.out (fun j hj => HK.out j (by omega))
      subst hR
      obtain rfl : q = l.length := by omega
      go_wp2
      go_ret
      exact ⟨rfl, (by repeat (first | exact Below.refl _ _ | refine bl_plus ?_ | refine bl_alloc ?_ _ | refine bl_drew ?_ | refine bl_drewN ?_ _))⟩

end Go.Proofs.Ytfpcfpjnafnjiaa
