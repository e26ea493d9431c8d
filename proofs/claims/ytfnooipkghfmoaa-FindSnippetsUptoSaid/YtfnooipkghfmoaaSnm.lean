/-
  WALK: the reference's SnippetOf.
-/
import Derived.Test.YtfnooipkghfmoaaSnl
import Derived.Laws.EntriesVeiled
set_option linter.all false
namespace Go.Proofs.Ytfnooipkghfmoaa
open Go.RowKit Go.Lib Go.Maps

theorem plus_five {L : World} {o4 o5 o6 o7 o8 : Array Obj} {n4 n5 n6 n7 n8 : Nat} {a : Obj} : plus (plus (plus (plus ((plus L o4 n4).alloc a) o5 n5) o6 n6) o7 n7) o8 n8 = plus L (o4.push a ++ (o5 ++ (o6 ++ (o7 ++ o8)))) n8 := by rw [plus_plus, plus_plus, plus_plus, plus_alloc, plus_plus]
theorem plus_three {L : World} {o4 o5 o6 : Array Obj} {n4 n5 n6 : Nat} {a : Obj} : plus (plus ((plus L o4 n4).alloc a) o5 n5) o6 n6 = plus L (o4.push a ++ (o5 ++ o6)) n6 := by rw [plus_plus, plus_alloc, plus_plus]
theorem plus_four {L : World} {o4 o5 o6 o7 : Array Obj} {n4 n5 n6 n7 : Nat} {a : Obj} : plus (plus (plus ((plus L o4 n4).alloc a) o5 n5) o6 n6) o7 n7 = plus L (o4.push a ++ (o5 ++ (o6 ++ o7))) n7 := by rw [plus_plus, plus_plus, plus_alloc, plus_plus]
theorem refGo_step (P : Wd → Bool) (W : Nat) (x : Wd) (r : List Wd) (st : Snp × Int) : refGo P W (x :: r) st = refGo P W r (if P x = true then (if st.2 < distN ((windowR P W (x :: r)).2.map Wd.t) then (⟨x.f, (windowR P W (x :: r)).1, (windowR P W (x :: r)).2⟩, (distN ((windowR P W (x :: r)).2.map Wd.t) : Int)) else st) else st) := rfl
theorem winR_mem (P : Wd → Bool) (B : Nat) : ∀ (r : List Wd) (st : Nat × List Wd), (∀ y ∈ (winR P B r st).2, y ∈ st.2 ∨ y ∈ r) ∧ (winR P B r st).2.length ≤ st.2.length + r.length
  | [], st => ⟨fun y hy => .inl hy, Nat.le_refl _⟩
  | x :: r, st => by
    have ih := winR_mem P B r
    rw [winR]
    generalize (if x.u ≤ B then max st.1 x.u else st.1) = T
    by_cases hc : x.u ≤ T ∧ P x = true
    · rw [if_pos hc]
      obtain ⟨h1, h2⟩ := ih (T, st.2 ++ [x])
      refine ⟨fun y hy => ?_, by simp only [List.length_append, List.length_cons, List.length_nil] at h2 ⊢; omega⟩
      rcases h1 y hy with h | h
      · rcases List.mem_append.1 h with h | h
        · exact .inl h
        · exact .inr (by simp only [List.mem_singleton] at h; rw [h]; exact List.mem_cons_self)
      · exact .inr (List.mem_cons_of_mem _ h)
    · rw [if_neg hc]
      obtain ⟨h1, h2⟩ := ih (T, st.2)
      refine ⟨fun y hy => ?_, by simp only [List.length_cons] at h2 ⊢; omega⟩
      rcases h1 y hy with h | h
      · exact .inl h
      · exact .inr (List.mem_cons_of_mem _ h)
theorem snipR_low (P : Wd → Bool) (W : Nat) (l : List Wd) (h : 0 < l.length) (h2 : (refGo P W l (Snp.zero, -1)).2 < 0) : snipR l P W = ⟨l[0].f, (windowR P W (l.drop 0)).1, []⟩ := by
  cases l with
  | nil => simp at h
  | cons x r => exact if_pos h2
theorem snipR_else (P : Wd → Bool) (W : Nat) (l : List Wd) (h : ¬ (0 < l.length ∧ (refGo P W l (Snp.zero, -1)).2 < 0)) : snipR l P W = (refGo P W l (Snp.zero, -1)).1 := by
  cases l with
  | nil => rfl
  | cons x r => exact if_neg (fun h2 => h ⟨by simp, h2⟩)
theorem windowR_mem (P : Wd → Bool) (W : Nat) (l : List Wd) : (∀ y ∈ (windowR P W l).2, y ∈ l) ∧ (windowR P W l).2.length ≤ l.length := by
  cases l with
  | nil => exact ⟨fun y hy => by simp [windowR] at hy, Nat.le_refl _⟩
  | cons x r =>
    obtain ⟨h1, h2⟩ := winR_mem P (x.f + W) (x :: r) (x.u, [])
    refine ⟨fun y hy => ?_, by simpa [windowR] using h2⟩
    rcases h1 y hy with h | h
    · simp at h
    · exact h

set_option maxHeartbeats 25600000 in
set_option maxRecDepth 100000 in
theorem snippetOf_any (s : ByteArray) (cs : List Cq) (Wd0 : Int) (A : Option Addr) (c : Nat) (w : World) (hs : s.size ≤ 1900000) (hA : CqsAt w A cs) (hN : nParts cs ≤ 1048576) (hL : cs.length ≤ 1048576) (hB : ∀ x ∈ cs, ∀ p ∈ x.ps, p.ws.length ≤ 1048576 ∧ ∀ y ∈ p.ws, y.size ≤ 1900000) :
    Calls Try.prog 6 #[.string s, .agg #[.slice A cs.length c], .int .i64 Wd0] w (SnpOut (snipAll s cs Wd0).1 (snipAll s cs Wd0).2 w) := by
  have HQS0 := hide (fun W (hb : Below w.heap.size w W) => queryString_any cs A c W (hA.below hb) hN hL hB)
  unfold QOut at HQS0
  have HPO := hide (show ∀ (r : Snp) (E : Int) A' c' w', snipAll s cs Wd0 = (r, E) → MksAt w' A' r.ms → Below w.heap.size w w' → SnpOut (snipAll s cs Wd0).1 (snipAll s cs Wd0).2 w (.returned (.tuple #[.agg #[.int .i64 r.f, .int .i64 r.u, .slice A' r.ms.length c'], .int .i64 E])) w' by
    intro r E A' c' w' h h1 h2
    rw [h]
    exact ⟨A', c', rfl, h1, h2⟩)
  generalize SnpOut (snipAll s cs Wd0).1 (snipAll s cs Wd0).2 w = PO at *
  generalize (if qErr cs = 0 then bsOf (qTxt cs) else (⟨#[]⟩ : ByteArray)) = QT at *
  by_cases hq : qErr cs = 0
  case neg =>
    have HR := hide (show snipAll s cs Wd0 = (Snp.zero, qErr cs) from if_pos hq)
    have j0 : (qErr cs != 0) = true := by simpa using hq
    have HQS := HQS0
    clear hA hB hN hL hs HQS0
    generalize qErr cs = E at *
    go_enter Try.func6, Try.ntmps6
    go_wp2_with (go_at_call 20; refine (HQS.out _ ?hbw).mono ?_; (case hbw => exact (by repeat (first | with_reducible exact Below.refl _ _ | with_reducible refine bl_plus ?_ | with_reducible refine bl_alloc ?_ _ | with_reducible refine bl_drew ?_ | with_reducible refine bl_drewN ?_ _))); rintro e w' ⟨rfl, hbl⟩; obtain ⟨os0, n0, rfl⟩ := below_plus hbl; clear hbl)
    refine bodyPost_ret (v := .tuple #[.agg #[.int .i64 0, .int .i64 0, .slice none 0 0], .int .i64 E]) (by simp [results, Try.results6, go_sem]) rfl ?_
    exact HPO.out Snp.zero E none 0 _ HR.out (fun h => absurd h (by simp [Snp.zero])) (by repeat (first | with_reducible exact Below.refl _ _ | with_reducible refine bl_plus ?_ | with_reducible refine bl_alloc ?_ _ | with_reducible refine bl_drew ?_ | with_reducible refine bl_drewN ?_ _))
  have hsm := smallQ_of hq
  rw [hq] at HQS0
  have HQS := HQS0
  have hR1 : snipAll s cs Wd0 = if 2000 < s.size then (Snp.zero, 4) else if Wd0 < 1 ∨ 1000 < Wd0 then (Snp.zero, 2) else (snipP (wordsAt s 0) (fun x => wantB cs x.t) Wd0.toNat, 0) := by
    unfold snipAll
    rw [if_neg (by rw [hq]; decide)]
  clear HQS0
  by_cases h2000 : 2000 < s.size
  · have HR := hide (hR1.trans (if_pos h2000))
    have i1 : (2000 : Int) < (s.size : Int) := by omega
    clear hA hB hN hL hR1 hq hsm h2000
    go_enter Try.func6, Try.ntmps6
    go_wp2_with (go_at_call 20; refine (HQS.out _ ?hbw).mono ?_; (case hbw => exact (by repeat (first | with_reducible exact Below.refl _ _ | with_reducible refine bl_plus ?_ | with_reducible refine bl_alloc ?_ _ | with_reducible refine bl_drew ?_ | with_reducible refine bl_drewN ?_ _))); rintro e w' ⟨rfl, hbl⟩; obtain ⟨os0, n0, rfl⟩ := below_plus hbl; clear hbl)
    refine bodyPost_ret (v := .tuple #[.agg #[.int .i64 0, .int .i64 0, .slice none 0 0], .int .i64 4]) (by simp [results, Try.results6, go_sem]) rfl ?_
    exact HPO.out Snp.zero 4 none 0 _ HR.out (fun h => absurd h (by simp [Snp.zero])) (by repeat (first | with_reducible exact Below.refl _ _ | with_reducible refine bl_plus ?_ | with_reducible refine bl_alloc ?_ _ | with_reducible refine bl_drew ?_ | with_reducible refine bl_drewN ?_ _))
  have hR2 := hR1.trans (if_neg h2000)
  have i1 : ¬ (2000 : Int) < (s.size : Int) := by omega
  by_cases hwd1 : Wd0 < 1
  · have HR := hide (hR2.trans (if_pos (.inl hwd1)))
    clear hA hB hN hL hR1 hR2 hq hsm
    go_enter Try.func6, Try.ntmps6
    go_wp2_with (go_at_call 20; refine (HQS.out _ ?hbw).mono ?_; (case hbw => exact (by repeat (first | with_reducible exact Below.refl _ _ | with_reducible refine bl_plus ?_ | with_reducible refine bl_alloc ?_ _ | with_reducible refine bl_drew ?_ | with_reducible refine bl_drewN ?_ _))); rintro e w' ⟨rfl, hbl⟩; obtain ⟨os0, n0, rfl⟩ := below_plus hbl; clear hbl)
    refine bodyPost_ret (v := .tuple #[.agg #[.int .i64 0, .int .i64 0, .slice none 0 0], .int .i64 2]) (by simp [results, Try.results6, go_sem]) rfl ?_
    exact HPO.out Snp.zero 2 none 0 _ HR.out (fun h => absurd h (by simp [Snp.zero])) (by repeat (first | with_reducible exact Below.refl _ _ | with_reducible refine bl_plus ?_ | with_reducible refine bl_alloc ?_ _ | with_reducible refine bl_drew ?_ | with_reducible refine bl_drewN ?_ _))
  by_cases hwd2 : 1000 < Wd0
  · have HR := hide (hR2.trans (if_pos (.inr hwd2)))
    clear hA hB hN hL hR1 hR2 hq hsm
    go_enter Try.func6, Try.ntmps6
    go_wp2_with (go_at_call 20; refine (HQS.out _ ?hbw).mono ?_; (case hbw => exact (by repeat (first | with_reducible exact Below.refl _ _ | with_reducible refine bl_plus ?_ | with_reducible refine bl_alloc ?_ _ | with_reducible refine bl_drew ?_ | with_reducible refine bl_drewN ?_ _))); rintro e w' ⟨rfl, hbl⟩; obtain ⟨os0, n0, rfl⟩ := below_plus hbl; clear hbl)
    refine bodyPost_ret (v := .tuple #[.agg #[.int .i64 0, .int .i64 0, .slice none 0 0], .int .i64 2]) (by simp [results, Try.results6, go_sem]) rfl ?_
    exact HPO.out Snp.zero 2 none 0 _ HR.out (fun h => absurd h (by simp [Snp.zero])) (by repeat (first | with_reducible exact Below.refl _ _ | with_reducible refine bl_plus ?_ | with_reducible refine bl_alloc ?_ _ | with_reducible refine bl_drew ?_ | with_reducible refine bl_drewN ?_ _))
  have hR3 := hR2.trans (if_neg (by omega))
  obtain ⟨W, rfl⟩ : ∃ W : Nat, Wd0 = (W : Int) := ⟨Wd0.toNat, by omega⟩
  rw [Int.toNat_natCast, snip_same _ W (inOrder_words s)] at hR3
  have hW : W ≤ 1000 := by omega
  have HWO := hide (fun W' => wordsOf_any s W' hs)
  unfold WdsOut at HWO
  have hcnt := wordsAt_count s
  have hin := fun x hx => wordsAt_in s x hx
  clear hR1 hR2 hB hN hL hq
  generalize hlw : wordsAt s 0 = l at *
  clear hlw
  have hl2 : l.length ≤ 2000 := by omega
  have hlx : ∀ x ∈ l, x.f ≤ 2000 ∧ x.u ≤ 2000 ∧ x.t.size ≤ 30 := fun x hx => by have := hin x hx; omega
  have hCQ : ∀ W', Below w.heap.size w W' → CqsAt W' A cs := fun W' hb => hA.below hb
  have HHI0 := hide (fun (x : Wd) (hx : x.t.size ≤ 30) W' (hb : Below w.heap.size w W') (hc : W'.cell? ⟨w.heap.size, 0, none⟩ = some (.slice A cs.length c)) (hl : w.heap.size < W'.heap.size) => hit_any cs A c x.t x.f x.u w.heap.size W' (hCQ W' hb) hsm hx hc hl)
  unfold BOut at HHI0
  have HWI0 := hide (fun (A1 : Option Addr) (c1 : Nat) (hc1 : l.length ≤ c1) (hc2 : c1 ≤ maxLen) (i gA gH : Nat) (hi : i < l.length) W' (hb : Below w.heap.size w W') (hW1 : WdsAt W' A1 l) (cA : W'.cell? ⟨gA, 0, none⟩ = some (.slice A1 l.length c1)) (cW : W'.cell? ⟨w.heap.size + 1, 0, none⟩ = some (.int .i64 W)) (cH : W'.cell? ⟨gH, 0, none⟩ = some (.func (.func 22) #[] #[.pointer (some ⟨w.heap.size, 0, none⟩)])) (cQ : W'.cell? ⟨w.heap.size, 0, none⟩ = some (.slice A cs.length c))
    (lA : gA < W'.heap.size) (lW : w.heap.size + 1 < W'.heap.size) (lH : gH < W'.heap.size) (lQ : w.heap.size < W'.heap.size) => windowRef_any cs A c l i W A1 c1 gA (w.heap.size + 1) gH w.heap.size W' (hCQ W' hb) hsm hW1 hc1 hc2 hl2 hi hlx hW cA cW cH cQ lA lW lH lQ)
  unfold WinOut at HWI0
  have HLX := hide hlx
  have HIN := hide hin
  have hj1 : ¬ (W : Int) < 1 := by omega
  have hj2 : ¬ (1000 : Int) < (W : Int) := by omega
  have hmm := @run_makeMap Try.prog
  have hA1 : ∀ (h : 0 < l.length), (refGo (fun x => wantB cs x.t) W l (Snp.zero, -1)).2 < 0 → snipAll s cs (W : Int) = (⟨l[0].f, (windowR (fun x => wantB cs x.t) W (l.drop 0)).1, []⟩, 0) := by
    intro h h2
    rw [hR3, snipR_low _ _ _ h h2]
  have hA2 : ¬ (0 < l.length ∧ (refGo (fun x => wantB cs x.t) W l (Snp.zero, -1)).2 < 0) → snipAll s cs (W : Int) = ((refGo (fun x => wantB cs x.t) W l (Snp.zero, -1)).1, 0) := by
    intro h
    rw [hR3, snipR_else _ _ _ h]
  generalize hRES : refGo (fun x => wantB cs x.t) W l (Snp.zero, -1) = RES at *
  have HRES := hide hRES
  have HA1 := hide hA1
  have HA2 := hide hA2
  clear hA hsm hin hCQ hlx hwd1 hwd2 hRES hA1 hA2 hR3
  go_enter Try.func6, Try.ntmps6
  go_wp2_with (first | (go_at_call 20; refine (HQS.out _ ?hbw).mono ?_; (case hbw => exact (by repeat (first | with_reducible exact Below.refl _ _ | with_reducible refine bl_plus ?_ | with_reducible refine bl_alloc ?_ _ | with_reducible refine bl_drew ?_ | with_reducible refine bl_drewN ?_ _))); rintro e w' ⟨rfl, hbl⟩; obtain ⟨os0, n0, rfl⟩ := below_plus hbl; clear hbl) | (go_at_call 21; refine (HWO.out _).mono ?_; rintro e w' ⟨v1, rfl, hown, hbl⟩; obtain ⟨A1, c1, rfl, hc1, hc2, _⟩ := ownK_form hown; have HW1 := hide (hown.wds).2.2.2; obtain ⟨os1, n1, rfl⟩ := below_plus hbl; clear hbl hown))
  have HWD := hide (HW1.out.below (w' := (((plus (plus (((w.alloc (.cells #[.slice A cs.length c] 24)).alloc (.cells #[.int .i64 (W : Nat)] 3)).alloc (.cells #[.int .i64 0, .int .i64 0, .slice none 0 0] 27)) os0 n0) os1 n1).alloc (.cells #[.slice A1 l.length c1] 44)).alloc (.cells #[.func (.func 22) #[] #[.pointer (some ⟨w.heap.size, 0, none⟩)]] 51))) (bl_alloc (bl_alloc (Below.refl _ _) _) _))
  clear HQS HWO HW1

  obtain ⟨iP, hiP, hzP0, hzP1, hzP2⟩ := info_parts info_mk
  have HIM := hide (And.intro hiP (And.intro hzP0 (And.intro hzP1 hzP2)))
  clear hiP hzP0 hzP1 hzP2
  go_loopw [14, 52] (fun wo i wr => ∃ (k : Nat) (st : Snp × Int) (Am : Option Addr) (cm : Nat) (os4 : Array Obj) (n4 : Nat), k ≤ l.length ∧ wo = .int .i64 st.2 ∧ i = .int .i64 k ∧ wr = plus ((((plus (plus (((w.alloc (.cells #[.slice A cs.length c] 24)).alloc (.cells #[.int .i64 (W : Nat)] 3)).alloc (.cells #[.int .i64 0, .int .i64 0, .slice none 0 0] 27)) os0 n0) os1 n1).alloc (.cells #[.slice A1 l.length c1] 44)).alloc (.cells #[.func (.func 22) #[] #[.pointer (some ⟨w.heap.size, 0, none⟩)]] 51)).alloc (.cells #[.int .i64 ((st.1.f : Nat) : Int), .int .i64 ((st.1.u : Nat) : Int), .slice Am st.1.ms.length cm] 27)) os4 n4 ∧ Hid (refGo (fun x => wantB cs x.t) W (l.drop k) st = RES) ∧
    Hid (OwnK 2 55 wr (w.heap.size + 1 + 1 + 1 + os0.size + os1.size + 1 + 1 + 1) (.slice Am st.1.ms.length cm) st.1.ms.length (flatMk st.1.ms)) ∧ -1 ≤ st.2 ∧ st.2 ≤ 2000) (fun _ i _ => l.length - (RowKit.intOf i).toNat)
  case atStart => exact ⟨0, (Snp.zero, -1), none, 0, #[], _, Nat.zero_le _, rfl, rfl, plus_nil.symm, HRES, hide OwnK.empty, by simp, by simp⟩
  case round =>
    clear HRES
    obtain ⟨k, ⟨⟨sf, su, sms⟩, sn⟩, Am, cm, os4, n4, hk, rfl, rfl, rfl, HST, HS, hsn0, hsn⟩ := hrel
    simp only at HST HS hsn hsn0 ⊢
    by_cases hlt : k < l.length
    · obtain ⟨b2, o2, rfl, hb2, hv2⟩ := HWD.out (by omega)
      obtain ⟨c0, c1', c2'⟩ := hv2 k hlt
      obtain ⟨hx1, hx2, hx3⟩ := HLX.out l[k] (List.getElem_mem hlt)
      have hst := HST.out
      have hd : l.drop k = l[k] :: l.drop (k + 1) := List.drop_eq_getElem_cons hlt
      have hst0 : refGo (fun x => wantB cs x.t) W (l[k] :: l.drop (k + 1)) (⟨sf, su, sms⟩, sn) = RES := by rw [← hd]; exact hst
      rw [refGo_step, ← hd] at hst0
      have hmem := windowR_mem (fun x => wantB cs x.t) W (l.drop k)
      have hm1 : ∀ y ∈ (windowR (fun x => wantB cs x.t) W (l.drop k)).2, y.f ≤ 2000 ∧ y.u ≤ 2000 ∧ y.t.size ≤ 30 := fun y hy => HLX.out y (List.mem_of_mem_drop (hmem.1 y hy))
      have hm2 : (windowR (fun x => wantB cs x.t) W (l.drop k)).2.length ≤ 2000 := by
        have := hmem.2
        rw [List.length_drop] at this
        omega
      have HM1 := hide hm1
      simp only [plus_size, World.size_alloc] at hb2
      have HHI := hide (fun W' hb hc hl => HHI0.out l[k] hx3 W' hb hc hl)
      have HWI := hide (fun W' hb hb2 cA cW cH cQ lA lW lH lQ => HWI0.out _ c1 hc1 hc2 k (w.heap.size + 1 + 1 + 1 + os0.size + os1.size) (w.heap.size + 1 + 1 + 1 + os0.size + os1.size + 1) hlt W' hb (HWD.out.below hb2) cA cW cH cQ lA lW lH lQ)
      clear hst hd hmem hm1 hv2 HST
      generalize windowR (fun x => wantB cs x.t) W (l.drop k) = WR at *
      obtain ⟨TO, ins⟩ := WR
      simp only at HWI hst0 hm2 HM1
      generalize l[k] = x at *
      obtain ⟨xt, xf, xu⟩ := x
      simp only at c0 c1' c2' HHI hx1 hx2 hx3 hst0
      generalize wantB cs xt = hit at *
      cases hit with
      | false =>
        rw [if_neg (by decide)] at hst0
        have HST := hide hst0
        clear hst0 HWI
        go_wp2_with (go_at_call 22; refine (HHI.out _ ?hbw ?hc ?hl).mono ?_; (case hbw => exact (by repeat (first | with_reducible exact Below.refl _ _ | with_reducible refine bl_plus ?_ | with_reducible refine bl_alloc ?_ _ | with_reducible refine bl_drew ?_ | with_reducible refine bl_drewN ?_ _))); (case hc => go_simp); (case hl => simp only [World.size_alloc, plus_size, World.drew]; omega); rintro e w' ⟨rfl, hbl⟩; obtain ⟨osh, nh, rfl⟩ := below_plus hbl; clear hbl)
        go_roundw
        case rel => exact ⟨k + 1, (⟨sf, su, sms⟩, sn), Am, cm, _, _, hlt, rfl, by go_num, plus_one, HST, hide (by repeat (first | with_reducible exact HS.out | with_reducible refine ownK_alloc ?_ _ | with_reducible refine ownK_plus ?_ _ _ | with_reducible refine ownK_drew ?_ | with_reducible refine ownK_drewN ?_ _)), hsn0, hsn⟩
        case measure => simp [RowKit.intOf]; omega
      | true =>
        rw [if_pos rfl] at hst0
        have HST := hide hst0
        clear hst0
        go_wp2_with (first | (go_at_call 22; refine (HHI.out _ ?hbw ?hc ?hl).mono ?_; (case hbw => exact (by repeat (first | with_reducible exact Below.refl _ _ | with_reducible refine bl_plus ?_ | with_reducible refine bl_alloc ?_ _ | with_reducible refine bl_drew ?_ | with_reducible refine bl_drewN ?_ _))); (case hc => go_simp); (case hl => simp only [World.size_alloc, plus_size, World.drew]; omega); rintro e w' ⟨rfl, hbl⟩; obtain ⟨osh, nh, rfl⟩ := below_plus hbl; clear hbl) | (go_at_call 24; refine (HWI.out _ ?hbw ?hbw2 ?cA ?cW ?cH ?cQ ?lA ?lW ?lH ?lQ).mono ?_; (case hbw => exact (by repeat (first | with_reducible exact Below.refl _ _ | with_reducible refine bl_plus ?_ | with_reducible refine bl_alloc ?_ _ | with_reducible refine bl_drew ?_ | with_reducible refine bl_drewN ?_ _))); (case hbw2 => exact (by repeat (first | with_reducible exact Below.refl _ _ | with_reducible refine bl_plus ?_ | with_reducible refine bl_alloc ?_ _ | with_reducible refine bl_drew ?_ | with_reducible refine bl_drewN ?_ _))); (case cA => go_simp); (case cW => go_simp); (case cH => go_simp); (case cQ => go_simp); (case lA => simp only [World.size_alloc, plus_size, World.drew]; omega); (case lW => simp only [World.size_alloc, plus_size, World.drew]; omega); (case lH => simp only [World.size_alloc, plus_size, World.drew]; omega); (case lQ => simp only [World.size_alloc, plus_size, World.drew]; omega); rintro e w' ⟨A3, c3, rfl, hown, hbl, hTO⟩; have HO3 := hide hown; obtain ⟨os5, n5, rfl⟩ := below_plus hbl; clear hbl hown))
        have HFD := hide (HO3.out.wds).2.2.2
        clear c0 c1' c2' HWI HHI
        go_loopw [70] (fun i wr => ∃ (q : Nat) (os6 : Array Obj) (n6 : Nat), q ≤ ins.length ∧ i = .int .i64 q ∧ wr = plus (plus (plus ((plus ((((plus (plus (((w.alloc (.cells #[.slice A cs.length c] 24)).alloc (.cells #[.int .i64 (W : Nat)] 3)).alloc (.cells #[.int .i64 0, .int .i64 0, .slice none 0 0] 27)) os0 n0) os1 n1).alloc (.cells #[.slice (some ⟨b2, o2, none⟩) l.length c1] 44)).alloc (.cells #[.func (.func 22) #[] #[.pointer (some ⟨w.heap.size, 0, none⟩)]] 51)).alloc (.cells #[.int .i64 ((sf : Nat) : Int), .int .i64 ((su : Nat) : Int), .slice Am sms.length cm] 27)) os4 n4).alloc (.cells #[.string xt, .int .i64 xf, .int .i64 xu] 48)) osh nh) os5 n5) os6 n6 ∧ Hid (wr.ownsMap Try.prog 9 (plainElem Try.prog 4) (w.heap.size + 1 + 1 + 1 + os0.size + os1.size + 1 + 1 + 1 + os4.size + 1 + osh.size + os5.size) q (mapB ((ins.take q).map Wd.t)))) (fun i _ => ins.length - (RowKit.intOf i).toNat)
        case atStart => exact ⟨0, #[.map #[] 0], _, Nat.zero_le _, rfl, alloc_plus, hide (by
          have := World.ownsMap_made (H := Unit) (plus (plus ((plus ((((plus (plus (((w.alloc (.cells #[.slice A cs.length c] 24)).alloc (.cells #[.int .i64 (W : Nat)] 3)).alloc (.cells #[.int .i64 0, .int .i64 0, .slice none 0 0] 27)) os0 n0) os1 n1).alloc (.cells #[.slice (some ⟨b2, o2, none⟩) l.length c1] 44)).alloc (.cells #[.func (.func 22) #[] #[.pointer (some ⟨w.heap.size, 0, none⟩)]] 51)).alloc (.cells #[.int .i64 ((sf : Nat) : Int), .int .i64 ((su : Nat) : Int), .slice Am sms.length cm] 27)) os4 n4).alloc (.cells #[.string xt, .int .i64 xf, .int .i64 xu] 48)) osh nh) os5 n5) Try.prog 9 (plainElem Try.prog 4)
          simp only [plus_size, World.size_alloc] at this
          exact this)⟩
        case round =>
          obtain ⟨q, os6, n6, hq, rfl, rfl, HMAP⟩ := hrel
          by_cases hlt2 : q < ins.length
          · obtain ⟨b3, o3, rfl, hb3, hv3⟩ := HFD.out (by omega)
            obtain ⟨e0, e1, e2⟩ := hv3 q hlt2
            have HMK := hide (show (ins.take (q + 1)).map Wd.t = (ins.take q).map Wd.t ++ [ins[q].t] by rw [List.take_succ_eq_append_getElem hlt2, List.map_append]; rfl)
            obtain ⟨hy1, hy2, hyt⟩ := HM1.out ins[q] (List.getElem_mem hlt2)
            clear hv3
            simp only [plus_size, World.size_alloc] at hb3
            generalize ins[q] = y at *
            generalize (ins.take q).map Wd.t = ms at *
            obtain ⟨yt, yf, yu⟩ := y
            simp only at e0 e1 e2 hy1 hy2 hyt HMK
            go_wp2_with (at_mapUpdate; go_loud (refine wpList_mapUpdate_own _ rfl _ _ _ 53 rfl 9 4 (string_keyed Try.underlying9) Try.underlying53 (plainElem Try.prog 4) (w.heap.size + 1 + 1 + 1 + os0.size + os1.size + 1 + 1 + 1 + os4.size + 1 + osh.size + os5.size) q _ rfl (HMAP.out.alloc _) (by unfold maxLen; omega) _ _ _ rfl rfl (Go.WideMaps.keyOf_string_mk Try.underlying9 (by unfold maxLen; omega)) _ [] (plainElem_bool Try.underlying4 true) ?_; intro w2 hown2 hgrow2; have HM3 := hide (hown2); obtain ⟨os10, n10, rfl⟩ := grown_plus (L := (plus (plus ((plus ((((plus (plus (((w.alloc (.cells #[.slice A cs.length c] 24)).alloc (.cells #[.int .i64 (W : Nat)] 3)).alloc (.cells #[.int .i64 0, .int .i64 0, .slice none 0 0] 27)) os0 n0) os1 n1).alloc (.cells #[.slice (some ⟨b2, o2, none⟩) l.length c1] 44)).alloc (.cells #[.func (.func 22) #[] #[.pointer (some ⟨w.heap.size, 0, none⟩)]] 51)).alloc (.cells #[.int .i64 ((sf : Nat) : Int), .int .i64 ((su : Nat) : Int), .slice Am sms.length cm] 27)) os4 n4).alloc (.cells #[.string xt, .int .i64 xf, .int .i64 xu] 48)) osh nh) os5 n5)) (by repeat (first | with_reducible exact Below.refl _ _ | with_reducible refine bl_plus ?_ | with_reducible refine bl_alloc ?_ _ | with_reducible refine bl_drew ?_ | with_reducible refine bl_drewN ?_ _)) hgrow2 (fun k hk => by have := Option.some.inj hk; simp only [plus_size, World.size_alloc]; omega); clear hown2 hgrow2))
            go_roundw
            case rel => exact ⟨q + 1, os10, n10, hlt2, by go_num, rfl, hide (by rw [HMK.out, mapB_snoc]; exact HM3.out)⟩
            case measure => simp [RowKit.intOf]; omega
          · obtain rfl : q = ins.length := by omega
            rw [List.take_length] at HMAP
            have hnl := distN_le (ins.map Wd.t)
            rw [List.length_map] at hnl
            have hDN : Go.Maps.size (mapB (ins.map Wd.t)) = distN (ins.map Wd.t) := rfl
            generalize distN (ins.map Wd.t) = N at *
            generalize mapB (ins.map Wd.t) = D at *
            by_cases hn : sn < (N : Int)
            · have hst := HST.out
              rw [if_pos hn] at hst
              have HST2 := hide hst
              clear hst HST HS HFD
              go_wp2_with (at_len; go_loud (refine wpList_len_own _ rfl _ _ rfl 9 4 Try.underlying53 (plainElem Try.prog 4) _ ins.length _ rfl HMAP.out ?_))
              clear HMAP
              go_loopw [90] (fun i wr => ∃ (q : Nat) (Ax : Option Addr) (cx : Nat) (os7 : Array Obj) (n7 : Nat), q ≤ ins.length ∧ i = .int .i64 q ∧ wr = plus (plus (plus (plus ((plus ((((plus (plus (((w.alloc (.cells #[.slice A cs.length c] 24)).alloc (.cells #[.int .i64 (W : Nat)] 3)).alloc (.cells #[.int .i64 0, .int .i64 0, .slice none 0 0] 27)) os0 n0) os1 n1).alloc (.cells #[.slice (some ⟨b2, o2, none⟩) l.length c1] 44)).alloc (.cells #[.func (.func 22) #[] #[.pointer (some ⟨w.heap.size, 0, none⟩)]] 51)).alloc (.cells #[.int .i64 ((xf : Nat) : Int), .int .i64 ((TO : Nat) : Int), .slice Ax q cx] 27)) os4 n4).alloc (.cells #[.string xt, .int .i64 xf, .int .i64 xu] 48)) osh nh) os5 n5) os6 n6) os7 n7 ∧ Hid (OwnK 2 55 wr (w.heap.size + 1 + 1 + 1 + os0.size + os1.size + 1 + 1 + 1 + os4.size + 1 + osh.size + os5.size + os6.size) (.slice Ax q cx) q (flatMk (ins.take q)))) (fun i _ => ins.length - (RowKit.intOf i).toNat)
              case atStart => exact ⟨0, none, 0, #[], _, Nat.zero_le _, rfl, plus_nil.symm, hide OwnK.empty⟩
              case round =>
                obtain ⟨q, Ax, cx, os7, n7, hq, rfl, rfl, HS2⟩ := hrel
                by_cases hlt2 : q < ins.length
                · obtain ⟨b3, o3, rfl, hb3, hv3⟩ := ((ownK_swap (B' := (plus ((plus ((((plus (plus (((w.alloc (.cells #[.slice A cs.length c] 24)).alloc (.cells #[.int .i64 (W : Nat)] 3)).alloc (.cells #[.int .i64 0, .int .i64 0, .slice none 0 0] 27)) os0 n0) os1 n1).alloc (.cells #[.slice (some ⟨b2, o2, none⟩) l.length c1] 44)).alloc (.cells #[.func (.func 22) #[] #[.pointer (some ⟨w.heap.size, 0, none⟩)]] 51)).alloc (.cells #[.int .i64 ((xf : Nat) : Int), .int .i64 ((TO : Nat) : Int), .slice Ax q cx] 27)) os4 n4).alloc (.cells #[.string xt, .int .i64 xf, .int .i64 xu] 48)) osh nh)) (n' := n5) HO3.out (by simp only [plus_size, World.size_alloc]) (by simp only [plus_size, World.size_alloc]; omega)).wds).2.2.2 (by omega)
                  obtain ⟨e0, e1, e2⟩ := hv3 q hlt2
                  have HFK := hide (show flatMk (ins.take (q + 1)) = flatMk (ins.take q) ++ mkCells ins[q] by rw [List.take_succ_eq_append_getElem hlt2, flatMk_snoc])
                  have HBIG := hide (show (q + 1) * iP.bytes ≤ 140737488355328 ∧ q + 1 ≤ 140737488355328 by rw [HIM.out.2.2.2]; omega)
                  clear hv3
                  simp only [plus_size, World.size_alloc] at hb3
                  generalize ins[q] = y at *
                  generalize flatMk (ins.take q) = ms at *
                  obtain ⟨yt, yf, yu⟩ := y
                  simp only at e0 e1 e2
                  unfold mkCells at HFK
                  go_wp2_with (at_builtin; go_loud (refine wpList_append_b rfl (.tmp 95) (.tmp 101) rfl rfl Try.underlying25 HIM.out.1 HIM.out.2.1 HIM.out.2.2.1 (by decide) rfl (by have := HIM.out.2.2.2; omega) (w.heap.size + 1 + 1 + 1 + os0.size + os1.size + 1 + 1 + 1 + os4.size + 1 + osh.size + os5.size + os6.size) q (.slice Ax q cx) ms [.int .i64 yf, .int .i64 yu] _ rfl (by repeat (first | with_reducible exact HS2.out | with_reducible refine ownK_alloc ?_ _ | with_reducible refine ownK_plus ?_ _ _ | with_reducible refine ownK_drew ?_ | with_reducible refine ownK_drewN ?_ _)) rfl (by intro u hu; simp only [List.mem_cons, List.not_mem_nil, or_false] at hu; rcases hu with rfl | rfl <;> rfl) rfl (newN_cells (cs := [.int .i64 yf, .int .i64 yu]) (by simp only [World.size_alloc, plus_size, World.drew])) HBIG.out (by simp only [World.size_alloc, plus_size, World.drew]; omega) ?_; intro v' w1 hown1 hgr1 hfr1; obtain ⟨A1x, c1x, rfl, _⟩ := ownK_form hown1; have HN := hide hown1; obtain ⟨os9, n9, rfl⟩ := grown_plus (L := (plus (plus (plus ((plus ((((plus (plus (((w.alloc (.cells #[.slice A cs.length c] 24)).alloc (.cells #[.int .i64 (W : Nat)] 3)).alloc (.cells #[.int .i64 0, .int .i64 0, .slice none 0 0] 27)) os0 n0) os1 n1).alloc (.cells #[.slice (some ⟨b2, o2, none⟩) l.length c1] 44)).alloc (.cells #[.func (.func 22) #[] #[.pointer (some ⟨w.heap.size, 0, none⟩)]] 51)).alloc (.cells #[.int .i64 ((xf : Nat) : Int), .int .i64 ((TO : Nat) : Int), .slice Ax q cx] 27)) os4 n4).alloc (.cells #[.string xt, .int .i64 xf, .int .i64 xu] 48)) osh nh) os5 n5) os6 n6)) (by repeat (first | with_reducible exact Below.refl _ _ | with_reducible refine bl_plus ?_ | with_reducible refine bl_alloc ?_ _ | with_reducible refine bl_drew ?_ | with_reducible refine bl_drewN ?_ _)) hgr1 (fun k hk => by have := (HS2.out.lt k hk).1; simp only [plus_size, World.size_alloc]; omega); clear hown1 hgr1 hfr1))
                  go_roundw
                  case rel => exact ⟨q + 1, A1x, c1x, os9, n9, hlt2, by go_num, rfl, hide (by rw [HFK.out]; exact ownK_swap HN.out (by simp only [plus_size, World.size_alloc]) (by simp only [plus_size, World.size_alloc]; omega))⟩
                  case measure => simp [RowKit.intOf]; omega
                · obtain rfl : q = ins.length := by omega
                  rw [List.take_length] at HS2
                  go_wp2
                  go_roundw
                  case rel => exact ⟨k + 1, (⟨xf, TO, ins⟩, (N : Int)), Ax, cx, _, _, hlt, rfl, by go_num, plus_five, HST2, hide (ownK_low HS2.out (by omega)), by simp only; omega, by simp only; omega⟩
                  case measure => simp [RowKit.intOf]; omega
            · have hst := HST.out
              rw [if_neg hn] at hst
              have HST2 := hide hst
              clear hst HST HFD
              go_wp2_with (at_len; go_loud (refine wpList_len_own _ rfl _ _ rfl 9 4 Try.underlying53 (plainElem Try.prog 4) _ ins.length _ rfl HMAP.out ?_))
              go_roundw
              case rel => exact ⟨k + 1, (⟨sf, su, sms⟩, sn), Am, cm, _, _, hlt, rfl, by go_num, plus_four, HST2, hide (by repeat (first | with_reducible exact HS.out | with_reducible refine ownK_alloc ?_ _ | with_reducible refine ownK_plus ?_ _ _ | with_reducible refine ownK_drew ?_ | with_reducible refine ownK_drewN ?_ _)), hsn0, hsn⟩
              case measure => simp [RowKit.intOf]; omega
    · obtain rfl : k = l.length := by omega
      have hst := HST.out
      rw [List.drop_length] at hst
      have hst : (⟨sf, su, sms⟩, sn) = RES := hst
      have HR1 := hide (fun h1 h2 => (HA1.out h1 h2))
      have HR2 := hide (fun h => (HA2.out h))
      rw [← hst] at HR1 HR2
      clear HST HHI0 hlt hk HA1 HA2 hst
      by_cases hneg : sn < 0
      · by_cases hpos : 0 < l.length
        · have i2 : (0 : Int) < (l.length : Int) := by omega
          obtain ⟨b2, o2, rfl, hb2, hv2⟩ := HWD.out hpos
          obtain ⟨c0, c1', c2'⟩ := hv2 0 hpos
          simp only [Nat.zero_mul, Nat.add_zero] at c0 c1' c2'
          have HRR := hide (HR1.out hpos hneg)
          have HWI := hide (fun W' hb hb2 cA cW cH cQ lA lW lH lQ => HWI0.out _ c1 hc1 hc2 0 (w.heap.size + 1 + 1 + 1 + os0.size + os1.size) (w.heap.size + 1 + 1 + 1 + os0.size + os1.size + 1) hpos W' hb (HWD.out.below hb2) cA cW cH cQ lA lW lH lQ)
          simp only [plus_size, World.size_alloc] at hb2
          clear hv2 HR1 HR2
          generalize windowR (fun x => wantB cs x.t) W (l.drop 0) = WR at *
          obtain ⟨TO, ins⟩ := WR
          generalize l[0] = x at *
          obtain ⟨xt, xf, xu⟩ := x
          simp only at c0 c1' c2' HRR HWI
          go_wp2_with (go_at_call 24; refine (HWI.out _ ?hbw ?hbw2 ?cA ?cW ?cH ?cQ ?lA ?lW ?lH ?lQ).mono ?_; (case hbw => exact (by repeat (first | with_reducible exact Below.refl _ _ | with_reducible refine bl_plus ?_ | with_reducible refine bl_alloc ?_ _ | with_reducible refine bl_drew ?_ | with_reducible refine bl_drewN ?_ _))); (case hbw2 => exact (by repeat (first | with_reducible exact Below.refl _ _ | with_reducible refine bl_plus ?_ | with_reducible refine bl_alloc ?_ _ | with_reducible refine bl_drew ?_ | with_reducible refine bl_drewN ?_ _))); (case cA => go_simp); (case cW => go_simp); (case cH => go_simp); (case cQ => go_simp); (case lA => simp only [World.size_alloc, plus_size, World.drew]; omega); (case lW => simp only [World.size_alloc, plus_size, World.drew]; omega); (case lH => simp only [World.size_alloc, plus_size, World.drew]; omega); (case lQ => simp only [World.size_alloc, plus_size, World.drew]; omega); rintro e w' ⟨A3, c3, rfl, hown, hbl, hTO⟩; have HO3 := hide hown; obtain ⟨os5, n5, rfl⟩ := below_plus hbl; clear hbl hown)
          refine bodyPost_ret (v := .tuple #[.agg #[.int .i64 xf, .int .i64 TO, .slice none 0 0], .int .i64 0]) (by simp [results, Try.results6, go_sem]) rfl ?_
          exact HPO.out ⟨xf, TO, []⟩ 0 none 0 _ HRR.out (fun h => absurd h (by simp)) (by repeat (first | with_reducible exact Below.refl _ _ | with_reducible refine bl_plus ?_ | with_reducible refine bl_alloc ?_ _ | with_reducible refine bl_drew ?_ | with_reducible refine bl_drewN ?_ _))
        · have i2 : ¬ (0 : Int) < (l.length : Int) := by omega
          have HRR := hide (HR2.out (fun h => hpos h.1))
          go_wp2
          refine bodyPost_ret (v := .tuple #[.agg #[.int .i64 sf, .int .i64 su, .slice Am sms.length cm], .int .i64 0]) (by simp [results, Try.results6, go_sem]) rfl ?_; exact HPO.out ⟨sf, su, sms⟩ 0 Am cm _ HRR.out (OwnK.mks (ownK_swap HS.out (by simp only [plus_size, World.size_alloc]) (by simp only [plus_size, World.size_alloc]; omega))).2.2.2 (by repeat (first | with_reducible exact Below.refl _ _ | with_reducible refine bl_plus ?_ | with_reducible refine bl_alloc ?_ _ | with_reducible refine bl_drew ?_ | with_reducible refine bl_drewN ?_ _))
      · have HRR := hide (HR2.out (fun h => hneg h.2))
        go_wp2
        refine bodyPost_ret (v := .tuple #[.agg #[.int .i64 sf, .int .i64 su, .slice Am sms.length cm], .int .i64 0]) (by simp [results, Try.results6, go_sem]) rfl ?_; exact HPO.out ⟨sf, su, sms⟩ 0 Am cm _ HRR.out (OwnK.mks (ownK_swap HS.out (by simp only [plus_size, World.size_alloc]) (by simp only [plus_size, World.size_alloc]; omega))).2.2.2 (by repeat (first | with_reducible exact Below.refl _ _ | with_reducible refine bl_plus ?_ | with_reducible refine bl_alloc ?_ _ | with_reducible refine bl_drew ?_ | with_reducible refine bl_drewN ?_ _))

end Go.Proofs.Ytfnooipkghfmoaa
