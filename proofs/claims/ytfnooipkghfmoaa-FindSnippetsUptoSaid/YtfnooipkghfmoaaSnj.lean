/-
  WALKS: the part of a string that begins with a word: the program's, and the reference's.
-/
import Derived.Test.YtfnooipkghfmoaaSnh
import Derived.Test.YtfnooipkghfmoaaSni
set_option linter.all false
namespace Go.Proofs.Ytfnooipkghfmoaa
open Go.RowKit Go.Lib

attribute [local go_sem high] run_max_i

def winStep (x0 : Wd) (W : Nat) (t : Nat) (x : Wd) : Nat := if x0.f ≤ x.f ∧ x.u ≤ x0.f + W then max t x.u else t
def winPart (l : List Wd) (x0 : Wd) (W k : Nat) : Nat := (l.take k).foldl (winStep x0 W) x0.u
theorem winPart_step {l : List Wd} {x0 : Wd} {W k : Nat} (h : k < l.length) : winPart l x0 W (k + 1) = winStep x0 W (winPart l x0 W k) l[k] := by
  unfold winPart
  rw [List.take_succ_eq_append_getElem h, List.foldl_append]
  rfl
theorem winPart_le {l : List Wd} {x0 : Wd} {W M : Nat} (h0 : x0.u ≤ M) (h : ∀ x ∈ l, x.u ≤ M) : ∀ k, k ≤ l.length → winPart l x0 W k ≤ M
  | 0, _ => h0
  | k + 1, hk => by
    rw [winPart_step (by omega)]
    have ih := winPart_le (W := W) h0 h k (by omega)
    have hx := h l[k] (List.getElem_mem (by omega))
    unfold winStep
    split <;> omega

set_option maxHeartbeats 3200000 in
set_option maxRecDepth 100000 in
theorem window_any (l : List Wd) (xt : ByteArray) (xf xu W : Nat) (A : Option Addr) (c : Nat) (w : World) (hA : WdsAt w A l) (hm : l.length ≤ 2000000) (hl : ∀ x ∈ l, x.f ≤ 2000 ∧ x.u ≤ 2000) (hx : xf ≤ 2000 ∧ xu ≤ 2000) (hW : W ≤ 1000) :
    Calls Try.prog 18 #[.slice A l.length c, .agg #[.string xt, .int .i64 xf, .int .i64 xu], .int .i64 W] w fun e w' => e = .returned (.agg #[.int .i64 xf, .int .i64 (winTo l ⟨xt, xf, xu⟩ W), .slice none 0 0]) ∧ Below w.heap.size w w' := by
  have HPO := hide (show ∀ (T : Nat) w', T = winTo l ⟨xt, xf, xu⟩ W → Below w.heap.size w w' → (fun (e : Ending) (w' : World) => e = .returned (.agg #[.int .i64 xf, .int .i64 (winTo l ⟨xt, xf, xu⟩ W), .slice none 0 0]) ∧ Below w.heap.size w w') (.returned (.agg #[.int .i64 xf, .int .i64 T, .slice none 0 0])) w' by rintro T w' rfl h; exact ⟨rfl, h⟩)
  generalize (fun (e : Ending) (w' : World) => e = .returned (.agg #[.int .i64 xf, .int .i64 (winTo l ⟨xt, xf, xu⟩ W), .slice none 0 0]) ∧ Below w.heap.size w w') = PO at *
  have HA := hide hA
  have HL := hide hl
  have HLE := hide (fun k hk => winPart_le (l := l) (x0 := ⟨xt, xf, xu⟩) (W := W) (M := 2000) hx.2 (fun x h => (hl x h).2) k hk)
  obtain ⟨hx1, hx2⟩ := hx
  clear hA hl
  go_enter Try.func18, Try.ntmps18
  go_wp2
  go_loopw [17] (fun i wr => ∃ (k : Nat) (os : Array Obj) (n : Nat), k ≤ l.length ∧ i = .int .i64 k ∧ wr = plus (((w.alloc (.cells #[.string xt, .int .i64 xf, .int .i64 xu] 48)).alloc (.cells #[.int .i64 0, .int .i64 0, .slice none 0 0] 27)).alloc (.cells #[.int .i64 xf, .int .i64 ((winPart l ⟨xt, xf, xu⟩ W k : Nat) : Int), .slice none 0 0] 27)) os n) (fun i _ => l.length - (RowKit.intOf i).toNat)
  case atStart => exact ⟨0, #[], _, Nat.zero_le _, rfl, plus_nil.symm⟩
  case round =>
    obtain ⟨k, os, n, hk, rfl, rfl⟩ := hrel
    by_cases hlt : k < l.length
    · obtain ⟨b, o, rfl, hb, hv⟩ := HA.out (by omega)
      obtain ⟨c0, c1, c2⟩ := hv k hlt
      have hs := winPart_step (x0 := ⟨xt, xf, xu⟩) (W := W) hlt
      obtain ⟨hy1, hy2⟩ := HL.out l[k] (List.getElem_mem hlt)
      have hT := HLE.out k hk
      have HS2 := hide hs
      clear hv HA HL hs HLE
      generalize winPart l ⟨xt, xf, xu⟩ W k = T at *
      generalize l[k] = y at *
      obtain ⟨yt, yf, yu⟩ := y
      simp only [winStep] at c0 c1 c2 HS2 hy1 hy2
      by_cases h1 : xf ≤ yf
      · have i1 : (xf : Int) ≤ (yf : Int) := by omega
        by_cases h2 : yu ≤ xf + W
        · have i2 : (yu : Int) ≤ (xf : Int) + (W : Int) := by omega
          have hmx : max (T : Int) (yu : Int) = ((max T yu : Nat) : Int) := by omega
          have HS3 := hide (HS2.out.trans (if_pos ⟨h1, h2⟩))
          clear HS2 h1 h2
          go_wp2
          go_roundw
          case rel => exact ⟨k + 1, _, _, hlt, by go_num, by rw [HS3.out]; first | rfl | (simp only [plus_alloc, plus_plus, pl_drewN, plus_drew]; rfl)⟩
          case measure => simp [RowKit.intOf]; omega
        · have i2 : ¬ (yu : Int) ≤ (xf : Int) + (W : Int) := by omega
          have HS3 := hide (HS2.out.trans (if_neg (fun h => h2 h.2)))
          clear HS2 h1 h2
          go_wp2
          go_roundw
          case rel => exact ⟨k + 1, _, _, hlt, by go_num, by rw [HS3.out]; first | rfl | (simp only [plus_alloc, plus_plus, pl_drewN, plus_drew]; rfl)⟩
          case measure => simp [RowKit.intOf]; omega
      · have i1 : ¬ (xf : Int) ≤ (yf : Int) := by omega
        have HS3 := hide (HS2.out.trans (if_neg (fun h => h1 h.1)))
        clear HS2 h1
        go_wp2
        go_roundw
        case rel => exact ⟨k + 1, _, _, hlt, by go_num, by rw [HS3.out]; first | rfl | (simp only [plus_alloc, plus_plus, pl_drewN, plus_drew]; rfl)⟩
        case measure => simp [RowKit.intOf]; omega
    · obtain rfl : k = l.length := by omega
      have HE := hide (show winPart l ⟨xt, xf, xu⟩ W l.length = winTo l ⟨xt, xf, xu⟩ W by
        unfold winPart winTo
        rw [List.take_length]
        rfl)
      clear HA HL HLE
      generalize winPart l ⟨xt, xf, xu⟩ W l.length = T at *
      go_wp2
      refine bodyPost_ret (v := .agg #[.int .i64 xf, .int .i64 T, .slice none 0 0]) (by simp [results, Try.results18, go_sem]) rfl ?_
      exact HPO.out T _ HE.out (by repeat (first | with_reducible exact Below.refl _ _ | with_reducible refine bl_plus ?_ | with_reducible refine bl_alloc ?_ _ | with_reducible refine bl_drew ?_ | with_reducible refine bl_drewN ?_ _))

def WinOut (R : Nat × List Wd) (w : World) (e : Ending) (w' : World) : Prop := ∃ A c, e = .returned (.tuple #[.int .i64 R.1, .slice A R.2.length c]) ∧ OwnK 3 48 w' w.heap.size (.slice A R.2.length c) R.2.length (flatW R.2) ∧ Below w.heap.size w w' ∧ R.1 ≤ 3000
theorem winR_step (P : Wd → Bool) (B : Nat) (y : Wd) (r : List Wd) (T : Nat) (ins : List Wd) : winR P B (y :: r) (T, ins) = winR P B r (if y.u ≤ B then max T y.u else T, if y.u ≤ (if y.u ≤ B then max T y.u else T) ∧ P y = true then ins ++ [y] else ins) := rfl

set_option maxHeartbeats 6400000 in
set_option maxRecDepth 100000 in
theorem windowRef_any (cs : List Cq) (Aq : Option Addr) (cq : Nat) (ws : List Wd) (i W : Nat) (A : Option Addr) (c : Nat) (gA gW gH gQ : Nat) (w : World) (hQ : CqsAt w Aq cs) (hs : SmallQ cs) (hA : WdsAt w A ws) (hc : ws.length ≤ c) (hc2 : c ≤ maxLen) (hm : ws.length ≤ 2000) (hi : i < ws.length) (hl : ∀ x ∈ ws, x.f ≤ 2000 ∧ x.u ≤ 2000 ∧ x.t.size ≤ 30) (hW : W ≤ 1000)
    (cA : w.cell? ⟨gA, 0, none⟩ = some (.slice A ws.length c)) (cW : w.cell? ⟨gW, 0, none⟩ = some (.int .i64 W)) (cH : w.cell? ⟨gH, 0, none⟩ = some (.func (.func 22) #[] #[.pointer (some ⟨gQ, 0, none⟩)])) (cQ : w.cell? ⟨gQ, 0, none⟩ = some (.slice Aq cs.length cq))
    (lA : gA < w.heap.size) (lW : gW < w.heap.size) (lH : gH < w.heap.size) (lQ : gQ < w.heap.size) :
    Calls Try.prog 24 #[.int .i64 i, .pointer (some ⟨gA, 0, none⟩), .pointer (some ⟨gW, 0, none⟩), .pointer (some ⟨gH, 0, none⟩)] w (WinOut (windowR (fun x => wantB cs x.t) W (ws.drop i)) w) := by
  have HPO := hide (show ∀ (T : Nat) (ins : List Wd) A' c' w', (T, ins) = windowR (fun x => wantB cs x.t) W (ws.drop i) → OwnK 3 48 w' w.heap.size (.slice A' ins.length c') ins.length (flatW ins) → Below w.heap.size w w' → T ≤ 3000 → WinOut (windowR (fun x => wantB cs x.t) W (ws.drop i)) w (.returned (.tuple #[.int .i64 T, .slice A' ins.length c'])) w' by
    intro T ins A' c' w' h h1 h2 h3
    rw [← h]
    exact ⟨A', c', rfl, h1, h2, h3⟩)
  obtain ⟨b, o, rfl, hb, hv⟩ := hA (by omega)
  have hcA := hv i hi
  have hdrop : ∀ k (h : i + k < ws.length), ws.drop (i + k) = ws[i + k] :: ws.drop (i + (k + 1)) := fun k h => List.drop_eq_getElem_cons h
  have hR0 : winR (fun x => wantB cs x.t) (ws[i].f + W) (ws.drop (i + 0)) (ws[i].u, []) = windowR (fun x => wantB cs x.t) W (ws.drop i) := by
    show winR _ _ (ws.drop i) _ = _
    rw [List.drop_eq_getElem_cons hi]
    rfl
  have HR0 := hide hR0
  have hx0 := hl ws[i] (List.getElem_mem hi)
  have HV := hide hv
  have HL := hide hl
  have HD := hide hdrop
  have HH := hide (fun (y : Wd) (hy : y.t.size ≤ 30) W' (hb : Below w.heap.size w W') => hit_any cs Aq cq y.t y.f y.u gQ W' (hQ.below hb) hs hy ((hb.cell (p := ⟨gQ, 0, none⟩) lQ).trans cQ) (Nat.lt_of_lt_of_le lQ hb.size))
  unfold BOut at HH
  obtain ⟨iP, hiP, hzP0, hzP1, hzP2⟩ := info_parts info_wd
  have HIP := hide (And.intro hiP (And.intro hzP0 (And.intro hzP1 hzP2)))
  clear hiP hzP0 hzP1 hzP2 hQ hs hA hv hdrop hR0 hl cQ
  generalize windowR (fun x => wantB cs x.t) W (ws.drop i) = R at *
  generalize WinOut R w = PO at *
  obtain ⟨e0, e1, e2⟩ := hcA
  obtain ⟨x01, x02, -⟩ := hx0
  generalize ws[i].f = x0f at *
  generalize ws[i].u = x0u at *
  have i1 : (i : Int) < (ws.length : Int) := by omega
  have i2 : (i : Int) ≤ (ws.length : Int) := by omega
  have i3 : (ws.length : Int) ≤ (c : Int) := by omega
  unfold maxLen at hc2
  have hwr : IntKind.i64.wrap ((x0f : Int) + (W : Int)) = (x0f : Int) + (W : Int) := IntWalk.i64_in _ (by omega)
  go_enter Try.func24, Try.ntmps24
  go_wp2
  go_loopw [7, 8, 20] (fun tt v ii wr => ∃ (k T : Nat) (ins : List Wd) (A' : Option Addr) (c' : Nat) (os : Array Obj) (n : Nat), i + k ≤ ws.length ∧ tt = .int .i64 (T : Nat) ∧ v = .slice A' ins.length c' ∧ ii = .int .i64 k ∧ Hid (winR (fun x => wantB cs x.t) (x0f + W) (ws.drop (i + k)) (T, ins) = R) ∧
    Hid (OwnK 3 48 wr w.heap.size (.slice A' ins.length c') ins.length (flatW ins)) ∧ wr = plus w os n ∧ (T ≤ 2000 ∧ ins.length ≤ k)) (fun _ _ ii _ => ws.length - (RowKit.intOf ii).toNat)
  case atStart => exact ⟨0, x0u, [], none, 0, #[], _, by omega, rfl, rfl, rfl, HR0, hide OwnK.empty, plus_nil.symm, by omega, Nat.le_refl _⟩
  case round =>
    obtain ⟨k, T, ins, A', c', os, n, hk, rfl, rfl, rfl, HR, HS, rfl, hT, hil⟩ := hrel
    clear HR0
    by_cases hlt : i + k < ws.length
    · obtain ⟨d0, d1, d2⟩ := HV.out (i + k) hlt
      rw [show o + (i + k) * 3 = o + i * 3 + k * 3 by omega] at d0 d1 d2
      obtain ⟨hy1, hy2, hy3⟩ := HL.out ws[i + k] (List.getElem_mem hlt)
      have hr := HR.out
      rw [HD.out k hlt, winR_step] at hr
      have HHY := hide (HH.out ws[i + k] hy3)
      have j1 : (k : Int) < ((ws.length - i : Nat) : Int) := by omega
      have HBIG := hide (show (ins.length + 1) * iP.bytes ≤ 140737488355328 ∧ ins.length + 1 ≤ 140737488355328 by rw [HIP.out.2.2.2]; omega)
      clear HR HV HL HD HH
      generalize ws[i + k] = y at *
      obtain ⟨yt, yf, yu⟩ := y
      simp only at d0 d1 d2 hr HHY hy1 hy2
      generalize wantB cs yt = B at *
      by_cases hb1 : yu ≤ x0f + W
      · have j2 : (yu : Int) ≤ (x0f : Int) + (W : Int) := by omega
        have hmx : max (T : Int) (yu : Int) = ((max T yu : Nat) : Int) := by omega
        have j3 : (yu : Int) ≤ ((max T yu : Nat) : Int) := by omega
        simp only [if_pos hb1] at hr
        have hm2 : max T yu ≤ 2000 := by omega
        have hle : yu ≤ max T yu := by omega
        cases B with
        | true =>
          rw [if_pos ⟨hle, rfl⟩] at hr
          have HR2 := hide hr
          clear hr hb1 hle
          generalize max T yu = T2 at *
          · go_wp2_with fail
            go_quiet (fail)
            go_wp2_with (first | (go_at_call 22; refine (HHY.out _ ?hbw).mono ?_; (case hbw => exact (by repeat (first | with_reducible exact Below.refl _ _ | with_reducible refine bl_plus ?_ | with_reducible refine bl_alloc ?_ _ | with_reducible refine bl_drew ?_ | with_reducible refine bl_drewN ?_ _))); rintro e w' ⟨rfl, hbl⟩; obtain ⟨os5, n5, rfl⟩ := below_plus hbl; clear hbl) | (at_builtin; refine wpList_append_b rfl (.tmp 47) (.tmp 49) rfl rfl Try.underlying44 HIP.out.1 HIP.out.2.1 HIP.out.2.2.1 (by decide) rfl (by have := HIP.out.2.2.2; omega) (w.heap.size) ins.length (.slice A' ins.length c') (flatW ins) [.string yt, .int .i64 yf, .int .i64 yu] _ rfl (by repeat (first | with_reducible exact HS.out | with_reducible refine ownK_alloc ?_ _ | with_reducible refine ownK_plus ?_ _ _ | with_reducible refine ownK_drew ?_ | with_reducible refine ownK_drewN ?_ _)) rfl (by intro u hu; simp only [List.mem_cons, List.not_mem_nil, or_false] at hu; rcases hu with rfl | rfl | rfl <;> rfl) rfl (newN_cells (cs := [.string yt, .int .i64 yf, .int .i64 yu]) (by simp only [World.size_alloc, plus_size, World.drew, World.drewN])) HBIG.out (by simp only [World.size_alloc, plus_size, World.drew, World.drewN]; omega) ?_; intro v' w1 hown1 hgr1 hfr1; have HGR := hide hgr1; obtain ⟨A1, c1, rfl, _⟩ := ownK_form hown1; have HN := hide hown1; clear hown1 hgr1 hfr1))
            obtain ⟨os9, n9, hw1⟩ := grown_plus (L := w) (by repeat (first | with_reducible exact Below.refl _ _ | with_reducible refine bl_plus ?_ | with_reducible refine bl_alloc ?_ _ | with_reducible refine bl_drew ?_ | with_reducible refine bl_drewN ?_ _)) HGR.out (fun g hg => (HS.out.lt g hg).1)
            go_roundw
            case rel => exact ⟨k + 1, T2, ins ++ [⟨yt, yf, yu⟩], A1, c1, os9, n9, by omega, rfl, by rw [List.length_append]; rfl, by go_num, HR2, hide (by rw [flatW_snoc, List.length_append]; exact HN.out), hw1, by simp only [List.length_append, List.length_cons, List.length_nil]; omega⟩
            case measure => simp [RowKit.intOf]; omega
        | false =>
          rw [if_neg (fun h => by cases h.2)] at hr
          have HR2 := hide hr
          clear hr hb1 hle HBIG
          generalize max T yu = T2 at *
          · go_wp2_with fail
            go_quiet (fail)
            go_wp2_with (go_at_call 22; refine (HHY.out _ ?hbw).mono ?_; (case hbw => exact (by repeat (first | with_reducible exact Below.refl _ _ | with_reducible refine bl_plus ?_ | with_reducible refine bl_alloc ?_ _ | with_reducible refine bl_drew ?_ | with_reducible refine bl_drewN ?_ _))); rintro e w' ⟨rfl, hbl⟩; obtain ⟨os5, n5, rfl⟩ := below_plus hbl; clear hbl)
            go_roundw
            case rel => exact ⟨k + 1, T2, ins, A', c', _, _, by omega, rfl, rfl, by go_num, HR2, hide (by repeat (first | with_reducible exact HS.out | with_reducible refine ownK_alloc ?_ _ | with_reducible refine ownK_plus ?_ _ _ | with_reducible refine ownK_drew ?_ | with_reducible refine ownK_drewN ?_ _)), (by first | rfl | exact plus_one | (simp only [plus_alloc, plus_plus, pl_drewN, plus_drew]; rfl)), by omega⟩
            case measure => simp [RowKit.intOf]; omega
      · have j2 : ¬ (yu : Int) ≤ (x0f : Int) + (W : Int) := by omega
        simp only [if_neg hb1] at hr
        by_cases hb2 : yu ≤ T
        · have j3 : (yu : Int) ≤ (T : Int) := by omega
          cases B with
          | true =>
            rw [if_pos ⟨hb2, rfl⟩] at hr
            have HR2 := hide hr
            clear hr hb1 hb2
            go_wp2_with fail
            go_quiet (fail)
            go_wp2_with (first | (go_at_call 22; refine (HHY.out _ ?hbw).mono ?_; (case hbw => exact (by repeat (first | with_reducible exact Below.refl _ _ | with_reducible refine bl_plus ?_ | with_reducible refine bl_alloc ?_ _ | with_reducible refine bl_drew ?_ | with_reducible refine bl_drewN ?_ _))); rintro e w' ⟨rfl, hbl⟩; obtain ⟨os5, n5, rfl⟩ := below_plus hbl; clear hbl) | (at_builtin; refine wpList_append_b rfl (.tmp 47) (.tmp 49) rfl rfl Try.underlying44 HIP.out.1 HIP.out.2.1 HIP.out.2.2.1 (by decide) rfl (by have := HIP.out.2.2.2; omega) (w.heap.size) ins.length (.slice A' ins.length c') (flatW ins) [.string yt, .int .i64 yf, .int .i64 yu] _ rfl (by repeat (first | with_reducible exact HS.out | with_reducible refine ownK_alloc ?_ _ | with_reducible refine ownK_plus ?_ _ _ | with_reducible refine ownK_drew ?_ | with_reducible refine ownK_drewN ?_ _)) rfl (by intro u hu; simp only [List.mem_cons, List.not_mem_nil, or_false] at hu; rcases hu with rfl | rfl | rfl <;> rfl) rfl (newN_cells (cs := [.string yt, .int .i64 yf, .int .i64 yu]) (by simp only [World.size_alloc, plus_size, World.drew, World.drewN])) HBIG.out (by simp only [World.size_alloc, plus_size, World.drew, World.drewN]; omega) ?_; intro v' w1 hown1 hgr1 hfr1; have HGR := hide hgr1; obtain ⟨A1, c1, rfl, _⟩ := ownK_form hown1; have HN := hide hown1; clear hown1 hgr1 hfr1))
            obtain ⟨os9, n9, hw1⟩ := grown_plus (L := w) (by repeat (first | with_reducible exact Below.refl _ _ | with_reducible refine bl_plus ?_ | with_reducible refine bl_alloc ?_ _ | with_reducible refine bl_drew ?_ | with_reducible refine bl_drewN ?_ _)) HGR.out (fun g hg => (HS.out.lt g hg).1)
            go_roundw
            case rel => exact ⟨k + 1, T, ins ++ [⟨yt, yf, yu⟩], A1, c1, os9, n9, by omega, rfl, by rw [List.length_append]; rfl, by go_num, HR2, hide (by rw [flatW_snoc, List.length_append]; exact HN.out), hw1, by simp only [List.length_append, List.length_cons, List.length_nil]; omega⟩
            case measure => simp [RowKit.intOf]; omega
          | false =>
            rw [if_neg (fun h => by cases h.2)] at hr
            have HR2 := hide hr
            clear hr hb1 hb2 HBIG
            go_wp2_with fail
            go_quiet (fail)
            go_wp2_with (go_at_call 22; refine (HHY.out _ ?hbw).mono ?_; (case hbw => exact (by repeat (first | with_reducible exact Below.refl _ _ | with_reducible refine bl_plus ?_ | with_reducible refine bl_alloc ?_ _ | with_reducible refine bl_drew ?_ | with_reducible refine bl_drewN ?_ _))); rintro e w' ⟨rfl, hbl⟩; obtain ⟨os5, n5, rfl⟩ := below_plus hbl; clear hbl)
            go_roundw
            case rel => exact ⟨k + 1, T, ins, A', c', _, _, by omega, rfl, rfl, by go_num, HR2, hide (by repeat (first | with_reducible exact HS.out | with_reducible refine ownK_alloc ?_ _ | with_reducible refine ownK_plus ?_ _ _ | with_reducible refine ownK_drew ?_ | with_reducible refine ownK_drewN ?_ _)), (by first | rfl | exact plus_one | (simp only [plus_alloc, plus_plus, pl_drewN, plus_drew]; rfl)), by omega⟩
            case measure => simp [RowKit.intOf]; omega
        · have j3 : ¬ (yu : Int) ≤ (T : Int) := by omega
          rw [if_neg (fun h => hb2 h.1)] at hr
          have HR2 := hide hr
          clear hr hb1 hb2 HBIG HHY
          · go_wp2_with fail
            go_quiet (fail)
            go_wp2
            go_roundw
            case rel => exact ⟨k + 1, T, ins, A', c', _, _, by omega, rfl, rfl, by go_num, HR2, hide (by repeat (first | with_reducible exact HS.out | with_reducible refine ownK_alloc ?_ _ | with_reducible refine ownK_plus ?_ _ _ | with_reducible refine ownK_drew ?_ | with_reducible refine ownK_drewN ?_ _)), (by first | rfl | exact plus_one | (simp only [plus_alloc, plus_plus, pl_drewN, plus_drew]; rfl)), by omega⟩
            case measure => simp [RowKit.intOf]; omega
    · have hke : i + k = ws.length := by omega
      have hr := HR.out
      rw [hke, List.drop_length] at hr
      have HRR := hide (show (T, ins) = R from hr)
      have j1 : ¬ (k : Int) < ((ws.length - i : Nat) : Int) := by omega
      clear HR hr HV HL HD HH hke
      go_wp2
      exact HPO.out T ins A' c' _ HRR.out (by repeat (first | with_reducible exact HS.out | with_reducible refine ownK_alloc ?_ _ | with_reducible refine ownK_plus ?_ _ _ | with_reducible refine ownK_drew ?_ | with_reducible refine ownK_drewN ?_ _)) (by repeat (first | with_reducible exact Below.refl _ _ | with_reducible refine bl_plus ?_ | with_reducible refine bl_alloc ?_ _ | with_reducible refine bl_drew ?_ | with_reducible refine bl_drewN ?_ _)) (by omega)

end Go.Proofs.Ytfnooipkghfmoaa
