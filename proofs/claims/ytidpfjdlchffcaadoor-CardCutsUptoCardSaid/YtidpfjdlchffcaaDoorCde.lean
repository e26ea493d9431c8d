/-
  WALK: the cards of a string, in the program.
-/
import Derived.Test.YtidpfjdlchffcaaDoorCdd
import Derived.Deep.RegionLaw
set_option linter.all false
namespace Go.Proofs.YtidpfjdlchffcaaDoor
open Go.RowKit

/-- A card. -/
structure CD where
  b : Int
  n : Int
  f : ByteArray
  k : ByteArray
deriving DecidableEq

def CD.cells (c : CD) : List Value := [.int .i64 c.b, .int .i64 c.n, .string c.f, .string c.k]

def flatC (l : List CD) : List Value := l.flatMap CD.cells

theorem flatC_snoc (l : List CD) (g : CD) : flatC (l ++ [g]) = flatC l ++ g.cells := by simp [flatC]

theorem info_cardC : (Tryd.prog.info? 29).map (fun i => (i.zero, i.size, i.bytes)) = some (some (.agg #[.int .i64 0, .int .i64 0, .string ByteArray.empty, .string ByteArray.empty]), 4, 48) := by kernel_rfl

theorem flat_at {α : Type} (f : α → List Value) (K : Nat) (hf : ∀ a, (f a).length = K) : ∀ (l : List α) (j : Nat) (h : j < l.length) (i : Nat), i < K → (l.flatMap f)[j * K + i]? = (f l[j])[i]?
  | a :: l, 0, _, i, hi => by
    rw [List.flatMap_cons, List.getElem?_append_left (by rw [hf]; omega), Nat.zero_mul, Nat.zero_add, List.getElem_cons_zero]
  | a :: l, j + 1, h, i, hi => by
    rw [List.flatMap_cons, List.getElem?_append_right (by rw [hf, Nat.add_mul]; omega), hf, show (j + 1) * K + i - K = j * K + i by rw [Nat.add_mul]; omega]
    exact flat_at f K hf l j (Nat.lt_of_succ_lt_succ h) i hi

theorem ownK_cell {K : Nat} {e : TypeId} {w : World} {base n : Nat} {v : Value} {xs : List Value} (h : OwnK K e w base v n xs) (hn : 0 < n) : ∃ g c, v = .slice (some ⟨g, 0, none⟩) n c ∧ base ≤ g ∧ g < w.heap.size ∧ ∀ j u, xs[j]? = some u → w.cell? ⟨g, j, none⟩ = some u := by
  obtain ⟨hl, A, c, rfl, h1, h2, h3⟩ := h
  rcases h3 with ⟨_, h0, _⟩ | ⟨g, cur, rfl, hg, hb, h4, h5⟩
  · omega
  · refine ⟨g, c, rfl, hg, (Array.getElem?_eq_some_iff.1 hb).1, fun j u hj => ?_⟩
    rw [cell_of_row w g j cur e (0, 0) hb]
    have hlt : j < n * K := by
      have := (List.getElem?_eq_some_iff.1 hj).1
      omega
    have h6 : (cur.toList.take (n * K))[j]? = xs[j]? := by rw [h5]
    rw [List.getElem?_take_of_lt hlt] at h6
    rw [← hj, ← h6]
    simp

theorem ownK_gs {w : World} {base c : Nat} {A : Option Addr} {gs : List GP} (h : OwnK 5 43 w base (.slice A gs.length c) gs.length (flatG gs)) : GsAt w A gs := by
  obtain ⟨A', c', hv, h1, h2, -⟩ := ownK_form h
  injection hv with e1 e2 e3
  subst e1 e3
  refine ⟨Nat.le_trans h1 h2, fun hl => ?_⟩
  obtain ⟨g, c', hv, -, hlt, hc⟩ := ownK_cell h hl
  injection hv with e1 e2 e3
  subst e1
  refine ⟨g, 0, rfl, hlt, fun j hj => ?_⟩
  have key : ∀ i u, i < 5 → (gs[j].cells)[i]? = some u → w.cell? ⟨g, j * 5 + i, none⟩ = some u := fun i u hi hu => hc _ _ ((flat_at GP.cells 5 (fun _ => rfl) gs j hj i hi).trans hu)
  rw [Nat.zero_add]
  exact ⟨key 0 _ (by omega) rfl, key 1 _ (by omega) rfl, key 2 _ (by omega) rfl, key 3 _ (by omega) rfl, key 4 _ (by omega) rfl⟩

theorem ownK_clip {K : Nat} {e : TypeId} {w : World} {base n c : Nat} {A : Option Addr} {xs : List Value} (h : OwnK K e w base (.slice A n c) n xs) : OwnK K e w base (.slice A n n) n xs := by
  obtain ⟨hl, A', c', hv, h1, h2, h3⟩ := h
  injection hv with e1 e2 e3
  subst e1 e3
  refine ⟨hl, _, n, rfl, Nat.le_refl _, Nat.le_trans h1 h2, ?_⟩
  rcases h3 with ⟨h3, h4, h5⟩ | ⟨g, cur, h3, h4, h5, h6, h7⟩
  · exact .inl ⟨h3, h4, h4⟩
  · exact .inr ⟨g, cur, h3, h4, h5, Nat.le_trans (Nat.mul_le_mul_right K h1) h6, h7⟩

theorem ownK_new {K : Nat} (w : World) (e : TypeId) (cs : List Value) {base g : Nat} (hg : g = w.heap.size) (hl : cs.length = K) (hb : base ≤ w.heap.size) : OwnK K e (w.alloc (.cells cs.toArray e)) base (.slice (some ⟨g, 0, none⟩) 1 1) 1 cs := by
  subst hg
  refine ⟨by omega, _, 1, rfl, Nat.le_refl _, by unfold maxLen; omega, .inr ⟨w.heap.size, cs.toArray, rfl, hb, Blk.new w e cs.toArray, ?_, ?_⟩⟩
  · simp [hl]
  · rw [Nat.one_mul, ← hl]
    exact List.take_length

def askB (s : ByteArray) (n : Nat) (gs : List GP) : ByteArray := ⟨(askGo s n 0 0 gs).toArray⟩

def cardG (s : ByteArray) (gs : List GP) (n : Nat) : CD := ⟨0, (n : Int) + 1, askB s n gs, match gs[n]? with | some g => g.t | none => ⟨#[]⟩⟩

theorem cardG_at {s : ByteArray} {gs : List GP} {n : Nat} (h : n < gs.length) : cardG s gs n = ⟨0, (n : Int) + 1, askB s n gs, gs[n].t⟩ := by
  unfold cardG
  rw [List.getElem?_eq_getElem h]

def cutGaps (s : ByteArray) : List CD := (List.range (min (gapsAt s 0).length 20)).map (cardG s (gapsAt s 0))

def cutL (s : ByteArray) : List CD := if (divR s).2.2.2 = true then (if (divR s).2.2.1 = true then [⟨0, 1, (divR s).1, (divR s).2.1⟩, ⟨0, 2, (divR s).2.1, (divR s).1⟩] else [⟨0, 1, (divR s).1, (divR s).2.1⟩]) else cutGaps s

theorem cutL_one {s F B : ByteArray} (h : divR s = (F, B, false, true)) : cutL s = [⟨0, 1, F, B⟩] := by unfold cutL; rw [h]; rfl

theorem cutL_two {s F B : ByteArray} (h : divR s = (F, B, true, true)) : cutL s = [⟨0, 1, F, B⟩, ⟨0, 2, B, F⟩] := by unfold cutL; rw [h]; rfl

theorem cutL_gap {s F B : ByteArray} {bo : Bool} (h : divR s = (F, B, bo, false)) : cutL s = cutGaps s := by unfold cutL; rw [h]; rfl

theorem cards_snoc (s : ByteArray) (gs : List GP) (k : Nat) : (List.range (k + 1)).map (cardG s gs) = (List.range k).map (cardG s gs) ++ [cardG s gs k] := by rw [List.range_succ, List.map_append]; rfl

set_option maxHeartbeats 3200000 in
set_option maxRecDepth 100000 in
theorem clipC_any (A : Option Addr) (n c : Nat) (w : World) (hn : n ≤ c) (hA : A = none → c = 0) :
    Calls Tryd.prog 10 #[.slice A n c] w fun e w' => e = .returned (.slice A n n) ∧ w' = w := by
  go_enter Tryd.func10, Tryd.ntmps10
  cases A with
  | none =>
    obtain rfl := hA rfl
    obtain rfl : n = 0 := by omega
    go_wp2
    (first | exact ⟨rfl, rfl⟩ | (go_ret; exact ⟨rfl, rfl⟩))
  | some a =>
    have h1 : (n : Int) ≤ (c : Int) := by omega
    go_wp2
    (first | exact ⟨rfl, rfl⟩ | (go_ret; exact ⟨rfl, rfl⟩))

theorem ownK_form1 {K : Nat} {e : TypeId} {w : World} {base n c : Nat} {A : Option Addr} {xs : List Value} (h : OwnK K e w base (.slice A n c) n xs) : n ≤ c ∧ (A = none → c = 0) := by
  obtain ⟨A', c', hv, h1, h2, h3⟩ := ownK_form h
  injection hv with e1 e2 e3
  subst e1 e3
  exact ⟨h1, h3⟩

theorem run_min_lo {P : Program} {w : World} (ts : Array TypeId) (t : TypeId) (n : Nat) (h : (n : Int) ≤ 20) : (Builtin.min_ ts t #[.int .i64 (n : Int), .int .i64 20]).run P w = .ok (.int .i64 (n : Int)) w := by
  rw [run_min_i, show min (n : Int) 20 = n by omega]

theorem run_min_hi {P : Program} {w : World} (ts : Array TypeId) (t : TypeId) (n : Nat) (h : ¬ (n : Int) ≤ 20) : (Builtin.min_ ts t #[.int .i64 (n : Int), .int .i64 20]).run P w = .ok (.int .i64 20) w := by
  rw [run_min_i, show min (n : Int) 20 = 20 by omega]
attribute [local go_sem high] run_min_lo run_min_hi

set_option maxHeartbeats 3200000 in
set_option maxRecDepth 100000 in
theorem cut_any (s : ByteArray) (w : World) (hs : s.size ≤ 1100000) (hm : MaxTold w) :
    Calls Tryd.prog 7 #[.string s] w fun e w' => ∃ A c, e = Ending.returned (.slice A (cutL s).length c) ∧ OwnK 4 29 w' w.heap.size (.slice A (cutL s).length c) (cutL s).length (flatC (cutL s)) ∧ Below w.heap.size w w' := by
  have HPO : Hid (∀ A c w', OwnK 4 29 w' w.heap.size (.slice A (cutL s).length c) (cutL s).length (flatC (cutL s)) → Below w.heap.size w w' → (fun e w' => ∃ A c, e = Ending.returned (.slice A (cutL s).length c) ∧ OwnK 4 29 w' w.heap.size (.slice A (cutL s).length c) (cutL s).length (flatC (cutL s)) ∧ Below w.heap.size w w') (.returned (.slice A (cutL s).length c)) w') := hide fun A c w' h1 h2 => ⟨A, c, rfl, h1, h2⟩
  generalize (fun e w' => ∃ A c, e = Ending.returned (.slice A (cutL s).length c) ∧ OwnK 4 29 w' w.heap.size (.slice A (cutL s).length c) (cutL s).length (flatC (cutL s)) ∧ Below w.heap.size w w') = PO at *
  have HDV := hide (fun W => divided_any s W hs)
  have HGA := hide (fun W hW => gaps_any s W hs hW)
  have HM := hide hm
  clear hm
  go_enter Tryd.func7, Tryd.ntmps7
  have HDR := hide (rfl : divR s = divR s)
  generalize hdv : divR s = dv at HDV
  obtain ⟨F, B, bo, ok⟩ := dv
  clear HDR
  simp only at HDV
  cases ok with
  | true =>
    obtain ⟨iP, hiP, hzP0, hzP1, hzP2⟩ := info_parts info_cardC
    have HIP := hide (And.intro hiP (And.intro hzP0 (And.intro hzP1 hzP2)))
    clear hiP hzP0 hzP1 hzP2
    cases bo with
    | false =>
      have HL := hide (cutL_one hdv)
      clear hdv
      go_upto_region 3 with (go_at_call 12; (refine (HDV.out _).mono ?_); rintro e w' ⟨rfl, hbl⟩; have HB := hide (show Below w.heap.size w w' from hbl); clear hbl; generalize w' = WB at *)
      go_wp2_with (go_at_call 10; (refine (clipC_any _ 1 1 _ (Nat.le_refl _) (fun h => by cases h)).mono ?_); rintro e w' ⟨rfl, hw⟩; subst w')
      have HZ := hide (HPO.out (some ⟨WB.heap.size, 0, none⟩) 1 (WB.alloc (.cells #[.int .i64 0, .int .i64 1, .string F, .string B] 29)) )
      rw [HL.out] at HZ
      (first | exact HZ.out (ownK_new WB _ _ rfl rfl HB.out.size) (bl_alloc HB.out _) | (go_returns; exact HZ.out (ownK_new WB _ _ rfl rfl HB.out.size) (bl_alloc HB.out _)))
    | true =>
      have HL := hide (cutL_two hdv)
      clear hdv
      have HBG := hide (show (1 + 1) * iP.bytes ≤ 140737488355328 ∧ 1 + 1 ≤ 140737488355328 by have h9 := HIP.out.2.2.2; rw [h9]; omega)
      go_upto_region 3 with (go_at_call 12; (refine (HDV.out _).mono ?_); rintro e w' ⟨rfl, hbl⟩; have HB := hide (show Below w.heap.size w w' from hbl); clear hbl; generalize w' = WB at *)
      have HO1 := hide (ownK_new (K := 4) WB 29 [.int .i64 0, .int .i64 1, .string F, .string B] (base := w.heap.size) rfl rfl HB.out.size)
      go_upto_region 6 with (at_builtin; refine wpList_append_b rfl (.tmp 25) (.tmp 29) rfl rfl Tryd.underlying23 HIP.out.1 HIP.out.2.1 HIP.out.2.2.1 (by decide) rfl (by have := HIP.out.2.2.2; omega) w.heap.size 1 (.slice (some ⟨WB.heap.size, 0, none⟩) 1 1) [.int .i64 0, .int .i64 1, .string F, .string B] [.int .i64 0, .int .i64 2, .string B, .string F] _ rfl (ownK_alloc HO1.out _) rfl (by intro u hu; simp only [List.mem_cons, List.not_mem_nil, or_false] at hu; rcases hu with rfl | rfl | rfl | rfl <;> rfl) rfl (newN_cells (cs := [.int .i64 0, .int .i64 2, .string B, .string F]) (World.size_alloc _ _).symm) HBG.out (by rw [World.size_alloc, World.size_alloc]; have := HB.out.size; omega) ?_; intro v' w8 hown8 hgr8 hfr8; obtain ⟨A7, c7, rfl, hc71, hc72, hc73⟩ := ownK_form hown8; have HB8 := hide ((bl_alloc (bl_alloc HB.out (.cells #[.int .i64 0, .int .i64 1, .string F, .string B] 29)) (.cells #[.int .i64 0, .int .i64 2, .string B, .string F] 29)).grown hgr8 (by rw [World.size_alloc, World.size_alloc]; have := HB.out.size; omega) (fun k9 hk9 => (HO1.out.lt k9 hk9).1)); have HOW8 := hide hown8; have HCL := hide (fun W => clipC_any A7 2 c7 W hc71 hc73); clear hown8 hgr8 hfr8 hc71 hc72 hc73)
      go_wp2_with (go_at_call 10; (refine (HCL.out _).mono ?_); rintro e w' ⟨rfl, hw⟩; subst w')
      have HZ := hide (HPO.out A7 2 w8)
      rw [HL.out] at HZ
      (first | exact HZ.out (ownK_clip HOW8.out) HB8.out | (go_returns; exact HZ.out (ownK_clip HOW8.out) HB8.out))
  | false =>
    have HL := hide (cutL_gap hdv)
    clear hdv
    go_upto_region 9 with (first | (go_at_call 12; (refine (HDV.out _).mono ?_); rintro e w' ⟨rfl, hbl⟩; have HB0 := hide (show Below w.heap.size w w' from hbl); clear hbl; have HGA1 := hide (HGA.out w' (maxTold_b HM.out HB0.out)); generalize w' = W0 at *) | (go_at_call 13; refine HGA1.out.mono ?_; rintro e w' ⟨A, c, rfl, hown, hbl⟩; have HOG := hide hown; have HB := hide (show Below w.heap.size w w' from HB0.out.trans (hbl.mono HB0.out.size)); have HGS := hide (ownK_gs hown); obtain ⟨-, -, hAv, hc1, hc2, hc3⟩ := ownK_form hown; clear hown hbl; generalize w' = WB at *))
    clear HGA HGA1 HDV HB0
    have HCHN := hide (chain_all s)
    obtain ⟨gs, hgs⟩ : ∃ gs, gapsAt s 0 = gs := ⟨_, rfl⟩
    rw [hgs] at HOG HGS HCHN
    rw [hgs]
    have HGE := hide hgs
    clear hgs
    obtain ⟨iP, hiP, hzP0, hzP1, hzP2⟩ := info_parts info_cardC
    have HIP := hide (And.intro hiP (And.intro hzP0 (And.intro hzP1 hzP2)))
    clear hiP hzP0 hzP1 hzP2
    have hml := HGS.out.1
    unfold maxLen at hml
    by_cases h0 : gs.length = 0
    · have HZ0 := hide (show cutL s = [] from by rw [HL.out]; unfold cutGaps; rw [HGE.out, h0]; rfl)
      obtain ⟨hcA, hcB⟩ := ownK_form1 HOG.out
      obtain rfl := List.length_eq_zero_iff.1 h0
      have HZ := hide (HPO.out none 0 WB)
      rw [HZ0.out] at HZ
      clear HOG HGS HCHN hml HIP HGE
      cases A with
      | none =>
        obtain rfl := hcB rfl
        clear hcB hcA
        go_wp2
        go_loopw [8, 41] (fun l8 i9 wr => i9 = .int .i64 0 ∧ l8 = .slice none 0 0 ∧ wr = WB) (fun _ _ _ => 0)
        case atStart => exact ⟨rfl, rfl, rfl⟩
        case round =>
          obtain ⟨rfl, rfl, rfl⟩ := hrel
          go_wp2_with (go_at_call 10; (refine (clipC_any none 0 0 _ (Nat.le_refl _) (fun _ => rfl)).mono ?_); rintro e w' ⟨rfl, hw⟩; subst w')
          (first | exact HZ.out OwnK.empty HB.out | (go_returns; exact HZ.out OwnK.empty HB.out))
      | some a =>
        have i5 : (0 : Int) ≤ (c : Int) := by omega
        go_wp2
        go_loopw [8, 41] (fun l8 i9 wr => i9 = .int .i64 0 ∧ l8 = .slice none 0 0 ∧ wr = WB) (fun _ _ _ => 0)
        case atStart => exact ⟨rfl, rfl, rfl⟩
        case round =>
          obtain ⟨rfl, rfl, rfl⟩ := hrel
          go_wp2_with (go_at_call 10; (refine (clipC_any none 0 0 _ (Nat.le_refl _) (fun _ => rfl)).mono ?_); rintro e w' ⟨rfl, hw⟩; subst w')
          (first | exact HZ.out OwnK.empty HB.out | (go_returns; exact HZ.out OwnK.empty HB.out))
    · obtain ⟨b, o, rfl, hb0, -⟩ := HGS.out.2 (by omega)
      by_cases hN : gs.length ≤ 20
      · have HMN := hide (show min gs.length 20 = gs.length by omega)
        have i5 : (gs.length : Int) ≤ 20 := by omega
        have i6 : (gs.length : Int) ≤ (c : Int) := by have := (ownK_form1 HOG.out).1; omega
        go_wp2
        go_loopw [8, 41] (fun l8 i9 wr => ∃ (k : Nat) (A8 : Option Addr) (c8 : Nat), k ≤ gs.length ∧ i9 = .int .i64 k ∧ l8 = .slice A8 k c8 ∧ Hid (OwnK 4 29 wr WB.heap.size (.slice A8 k c8) k (flatC ((List.range k).map (cardG s gs)))) ∧ Hid (Below WB.heap.size WB wr)) (fun _ i9 _ => gs.length - (intOf i9).toNat)
        case atStart => exact ⟨0, none, 0, Nat.zero_le _, rfl, rfl, hide OwnK.empty, hide (by repeat (first | with_reducible exact Below.refl _ _ | with_reducible refine bl_plus ?_ | with_reducible refine bl_alloc ?_ _ | with_reducible refine bl_drew ?_ | with_reducible refine bl_drewN ?_ _))⟩
        case round =>
          obtain ⟨k, A8, c8, hk, rfl, rfl, HOW, HBW⟩ := hrel
          by_cases hlt : k < gs.length
          · have ik : (k : Int) < 20 := by omega
            obtain ⟨b2, o2, hAe, hb, hj⟩ := (HGS.out.below HBW.out).2 (by omega)
            obtain ⟨rfl, rfl⟩ : b = b2 ∧ o = o2 := by injection hAe with hAe; injection hAe with e1 e2; exact ⟨e1, e2⟩
            have i1 : (k : Int) < (gs.length : Int) := by omega
            obtain ⟨y0, y1, y2, y3, y4⟩ := hj k (by omega)
            have HCG := hide (cardG_at (s := s) (gs := gs) (n := k) (by omega))
            have HBG := hide (show (k + 1) * iP.bytes ≤ 140737488355328 ∧ k + 1 ≤ 140737488355328 by have h9 := HIP.out.2.2.2; rw [h9]; omega)
            have HCM := hide (show (cardG s gs k).cells = [.int .i64 0, .int .i64 (IntKind.i64.wrap ((k : Int) + 1)), .string (askB s k gs), .string gs[k].t] from by rw [HCG.out, show IntKind.i64.wrap ((k : Int) + 1) = (k : Int) + 1 by rw [IntKind.wrap_i64]; omega]; rfl)
            clear hj HCG
            generalize gs[k] = g9 at y0 y1 y2 y3 y4 HCM
            obtain ⟨gf, gu, gt, gh, gb⟩ := g9
            simp only at y0 y1 y2 y3 y4 HCM
            go_upto_region 12 with (fail)
            have HBX := hide (Blk.new wr 43 #[.int .i64 gf, .int .i64 gu, .string gt, .string gh, .bool gb])
            have HB1 := hide (bl_alloc HBW.out (.cells #[.int .i64 gf, .int .i64 gu, .string gt, .string gh, .bool gb] 43))
            have HOW1 := hide (ownK_alloc HOW.out (.cells #[.int .i64 gf, .int .i64 gu, .string gt, .string gh, .bool gb] 43))
            have HGX := hide HBX.out.lt
            have hgx := HBX.out.lt
            have v2 := HBX.out.cell 2
            simp only [List.getElem?_toArray, List.getElem?_cons_succ, List.getElem?_cons_zero] at v2
            generalize (wr.alloc (.cells #[.int .i64 gf, .int .i64 gu, .string gt, .string gh, .bool gb] 43)) = W1 at *
            have HWS := hide HB1.out.size
            have HAS := hide (fun W (hb : Below W1.heap.size W1 W) => asked_any s gs (some ⟨b, o, none⟩) c k W (HGS.out.below (HB1.out.trans (hb.mono HB1.out.size))) HCHN.out hs (by omega))
            go_region_law (first | ((refine step_append_b rfl (.tmp 46) (.tmp 56) rfl rfl Tryd.underlying23 HIP.out.1 HIP.out.2.1 HIP.out.2.2.1 (by decide) rfl (by have := HIP.out.2.2.2; omega) WB.heap.size k (.slice A8 k c8) (flatC ((List.range k).map (cardG s gs))) [.int .i64 0, .int .i64 (IntKind.i64.wrap ((k : Int) + 1)), .string (askB s k gs), .string gt] _ rfl (by repeat (first | with_reducible exact HOW.out | with_reducible exact HOW1.out | with_reducible refine ownK_alloc ?_ _ | with_reducible refine ownK_plus ?_ _ _ | with_reducible refine ownK_drew ?_ | with_reducible refine ownK_drewN ?_ _)) rfl (by intro u hu; simp only [List.mem_cons, List.not_mem_nil, or_false] at hu; rcases hu with rfl | rfl | rfl | rfl <;> rfl) rfl (newN_cells (cs := [.int .i64 0, .int .i64 (IntKind.i64.wrap ((k : Int) + 1)), .string (askB s k gs), .string gt]) (by first | rfl | simp only [World.size_alloc, plus_size, World.drew])) HBG.out (by have := HWS.out; (try simp only [World.size_alloc, plus_size, World.drew]); omega) ?_); intro v' w8 hown8 hgr8 hfr8; obtain ⟨A7, c7, rfl, _⟩ := ownK_form hown8; have HB8 := hide ((HB1.out.trans (Below.mono (show Below W1.heap.size W1 _ from (by repeat (first | with_reducible exact Below.refl _ _ | with_reducible refine bl_plus ?_ | with_reducible refine bl_alloc ?_ _ | with_reducible refine bl_drew ?_ | with_reducible refine bl_drewN ?_ _))) HWS.out)).grown hgr8 (by have := HWS.out; (try simp only [World.size_alloc, plus_size, World.drew]); omega) (fun k9 hk9 => (HOW1.out.lt k9 hk9).1)); have HOW8 := hide hown8; clear hown8 hgr8 hfr8) | (go_simp; go_at_call 14; (refine (HAS.out _ (by repeat (first | with_reducible exact Below.refl _ _ | with_reducible refine bl_plus ?_ | with_reducible refine bl_alloc ?_ _ | with_reducible refine bl_drew ?_ | with_reducible refine bl_drewN ?_ _))).mono ?_); rintro e w9 ⟨rfl, hbl⟩; obtain ⟨os9, n9, rfl⟩ := below_plus hbl; clear hbl))
            all_goals
              rw [← HCM.out, ← flatC_snoc, ← cards_snoc] at HOW8
              go_wp2
              go_roundw
              case rel => exact ⟨k + 1, A7, c7, by omega, by go_num, rfl, HOW8, HB8⟩
              case measure => simp [intOf]; omega
          · obtain rfl : k = gs.length := by omega
            have HCL := hide (fun W => clipC_any A8 gs.length c8 W (ownK_form1 HOW.out).1 (ownK_form1 HOW.out).2)
            go_upto_region 14 with (fail)
            go_wp2_with (go_at_call 10; (refine (HCL.out _).mono ?_); rintro e w' ⟨rfl, hw⟩; subst w')
            have HZ := hide (HPO.out A8 gs.length wr)
            rw [HL.out, show cutGaps s = (List.range gs.length).map (cardG s gs) by unfold cutGaps; rw [HGE.out, HMN.out], List.length_map, List.length_range] at HZ
            (first | exact HZ.out (ownK_clip (ownK_low HOW.out HB.out.size)) (HB.out.trans (HBW.out.mono HB.out.size)) | (go_returns; exact HZ.out (ownK_clip (ownK_low HOW.out HB.out.size)) (HB.out.trans (HBW.out.mono HB.out.size))))
      · have HMN := hide (show min gs.length 20 = 20 by omega)
        have i5 : ¬ (gs.length : Int) ≤ 20 := by omega
        have i6 : (20 : Int) ≤ (c : Int) := by have := (ownK_form1 HOG.out).1; omega
        go_wp2
        go_loopw [8, 41] (fun l8 i9 wr => ∃ (k : Nat) (A8 : Option Addr) (c8 : Nat), k ≤ 20 ∧ i9 = .int .i64 k ∧ l8 = .slice A8 k c8 ∧ Hid (OwnK 4 29 wr WB.heap.size (.slice A8 k c8) k (flatC ((List.range k).map (cardG s gs)))) ∧ Hid (Below WB.heap.size WB wr)) (fun _ i9 _ => 20 - (intOf i9).toNat)
        case atStart => exact ⟨0, none, 0, Nat.zero_le _, rfl, rfl, hide OwnK.empty, hide (by repeat (first | with_reducible exact Below.refl _ _ | with_reducible refine bl_plus ?_ | with_reducible refine bl_alloc ?_ _ | with_reducible refine bl_drew ?_ | with_reducible refine bl_drewN ?_ _))⟩
        case round =>
          obtain ⟨k, A8, c8, hk, rfl, rfl, HOW, HBW⟩ := hrel
          by_cases hlt : k < 20
          · have ik : (k : Int) < 20 := by omega
            obtain ⟨b2, o2, hAe, hb, hj⟩ := (HGS.out.below HBW.out).2 (by omega)
            obtain ⟨rfl, rfl⟩ : b = b2 ∧ o = o2 := by injection hAe with hAe; injection hAe with e1 e2; exact ⟨e1, e2⟩
            have i1 : (k : Int) < 20 := by omega
            obtain ⟨y0, y1, y2, y3, y4⟩ := hj k (by omega)
            have HCG := hide (cardG_at (s := s) (gs := gs) (n := k) (by omega))
            have HBG := hide (show (k + 1) * iP.bytes ≤ 140737488355328 ∧ k + 1 ≤ 140737488355328 by have h9 := HIP.out.2.2.2; rw [h9]; omega)
            have HCM := hide (show (cardG s gs k).cells = [.int .i64 0, .int .i64 (IntKind.i64.wrap ((k : Int) + 1)), .string (askB s k gs), .string gs[k].t] from by rw [HCG.out, show IntKind.i64.wrap ((k : Int) + 1) = (k : Int) + 1 by rw [IntKind.wrap_i64]; omega]; rfl)
            clear hj HCG
            generalize gs[k] = g9 at y0 y1 y2 y3 y4 HCM
            obtain ⟨gf, gu, gt, gh, gb⟩ := g9
            simp only at y0 y1 y2 y3 y4 HCM
            go_upto_region 12 with (fail)
            have HBX := hide (Blk.new wr 43 #[.int .i64 gf, .int .i64 gu, .string gt, .string gh, .bool gb])
            have HB1 := hide (bl_alloc HBW.out (.cells #[.int .i64 gf, .int .i64 gu, .string gt, .string gh, .bool gb] 43))
            have HOW1 := hide (ownK_alloc HOW.out (.cells #[.int .i64 gf, .int .i64 gu, .string gt, .string gh, .bool gb] 43))
            have HGX := hide HBX.out.lt
            have hgx := HBX.out.lt
            have v2 := HBX.out.cell 2
            simp only [List.getElem?_toArray, List.getElem?_cons_succ, List.getElem?_cons_zero] at v2
            generalize (wr.alloc (.cells #[.int .i64 gf, .int .i64 gu, .string gt, .string gh, .bool gb] 43)) = W1 at *
            have HWS := hide HB1.out.size
            have HAS := hide (fun W (hb : Below W1.heap.size W1 W) => asked_any s gs (some ⟨b, o, none⟩) c k W (HGS.out.below (HB1.out.trans (hb.mono HB1.out.size))) HCHN.out hs (by omega))
            go_region_law (first | ((refine step_append_b rfl (.tmp 46) (.tmp 56) rfl rfl Tryd.underlying23 HIP.out.1 HIP.out.2.1 HIP.out.2.2.1 (by decide) rfl (by have := HIP.out.2.2.2; omega) WB.heap.size k (.slice A8 k c8) (flatC ((List.range k).map (cardG s gs))) [.int .i64 0, .int .i64 (IntKind.i64.wrap ((k : Int) + 1)), .string (askB s k gs), .string gt] _ rfl (by repeat (first | with_reducible exact HOW.out | with_reducible exact HOW1.out | with_reducible refine ownK_alloc ?_ _ | with_reducible refine ownK_plus ?_ _ _ | with_reducible refine ownK_drew ?_ | with_reducible refine ownK_drewN ?_ _)) rfl (by intro u hu; simp only [List.mem_cons, List.not_mem_nil, or_false] at hu; rcases hu with rfl | rfl | rfl | rfl <;> rfl) rfl (newN_cells (cs := [.int .i64 0, .int .i64 (IntKind.i64.wrap ((k : Int) + 1)), .string (askB s k gs), .string gt]) (by first | rfl | simp only [World.size_alloc, plus_size, World.drew])) HBG.out (by have := HWS.out; (try simp only [World.size_alloc, plus_size, World.drew]); omega) ?_); intro v' w8 hown8 hgr8 hfr8; obtain ⟨A7, c7, rfl, _⟩ := ownK_form hown8; have HB8 := hide ((HB1.out.trans (Below.mono (show Below W1.heap.size W1 _ from (by repeat (first | with_reducible exact Below.refl _ _ | with_reducible refine bl_plus ?_ | with_reducible refine bl_alloc ?_ _ | with_reducible refine bl_drew ?_ | with_reducible refine bl_drewN ?_ _))) HWS.out)).grown hgr8 (by have := HWS.out; (try simp only [World.size_alloc, plus_size, World.drew]); omega) (fun k9 hk9 => (HOW1.out.lt k9 hk9).1)); have HOW8 := hide hown8; clear hown8 hgr8 hfr8) | (go_simp; go_at_call 14; (refine (HAS.out _ (by repeat (first | with_reducible exact Below.refl _ _ | with_reducible refine bl_plus ?_ | with_reducible refine bl_alloc ?_ _ | with_reducible refine bl_drew ?_ | with_reducible refine bl_drewN ?_ _))).mono ?_); rintro e w9 ⟨rfl, hbl⟩; obtain ⟨os9, n9, rfl⟩ := below_plus hbl; clear hbl))
            all_goals
              rw [← HCM.out, ← flatC_snoc, ← cards_snoc] at HOW8
              go_wp2
              go_roundw
              case rel => exact ⟨k + 1, A7, c7, by omega, by go_num, rfl, HOW8, HB8⟩
              case measure => simp [intOf]; omega
          · obtain rfl : k = 20 := by omega
            have HCL := hide (fun W => clipC_any A8 20 c8 W (ownK_form1 HOW.out).1 (ownK_form1 HOW.out).2)
            go_upto_region 14 with (fail)
            go_wp2_with (go_at_call 10; (refine (HCL.out _).mono ?_); rintro e w' ⟨rfl, hw⟩; subst w')
            have HZ := hide (HPO.out A8 20 wr)
            rw [HL.out, show cutGaps s = (List.range 20).map (cardG s gs) by unfold cutGaps; rw [HGE.out, HMN.out], List.length_map, List.length_range] at HZ
            (first | exact HZ.out (ownK_clip (ownK_low HOW.out HB.out.size)) (HB.out.trans (HBW.out.mono HB.out.size)) | (go_returns; exact HZ.out (ownK_clip (ownK_low HOW.out HB.out.size)) (HB.out.trans (HBW.out.mono HB.out.size))))

end Go.Proofs.YtidpfjdlchffcaaDoor
