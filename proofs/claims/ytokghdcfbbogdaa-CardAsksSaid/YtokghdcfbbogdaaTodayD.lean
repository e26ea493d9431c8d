/-
  WALKS: the reference's today.
-/
import Derived.Test.YtokghdcfbbogdaaTodayC
namespace Go.Proofs.Ytokghdcfbbogdaa
open Go.RowKit
attribute [local go_sem high] run_max_i run_min_i run_makeMap

def mapWorld2 (W0 : World) (kv : KV) (os : Array Obj) (n : Nat) (C D : Obj) : World := ((plus (W0.alloc (.map (ents kv) kv.length)) os n).alloc C).alloc D
theorem mapWorld2_heap (W0 : World) (kv : KV) (os : Array Obj) (n : Nat) (C D : Obj) : (mapWorld2 W0 kv os n C D).heap[W0.heap.size]? = some (.map (ents kv) kv.length) := by
  unfold mapWorld2
  rw [Below.heap_alloc _ _ _ (by rw [World.size_alloc, plus_size, World.size_alloc]; omega), Below.heap_alloc _ _ _ (by rw [plus_size, World.size_alloc]; omega), plus_heap (by rw [World.size_alloc]; omega)]
  exact heap_alloc_new W0 _
theorem mapWorld2_set (W0 : World) (kv kv' : KV) (os : Array Obj) (n : Nat) (C D : Obj) : setMap (mapWorld2 W0 kv os n C D) W0.heap.size (.map (ents kv') kv'.length) = mapWorld2 W0 kv' os n C D := by
  unfold mapWorld2
  rw [alloc_setMap_old (by rw [World.size_alloc, plus_size, World.size_alloc]; omega), alloc_setMap_old (by rw [plus_size, World.size_alloc]; omega), plus_setMap (by rw [World.size_alloc]; omega), alloc_setMap_new]
theorem lookup_round2 {t kt et : TypeId} (K : PairKey kt) (ht : Try.prog.underlying t = some (.map kt et)) {z : Value} (hz : ∀ w, (zeroValue et).run Try.prog w = .ok z w) (a b : Int) (W0 : World) (kv : KV) (os : Array Obj) (n : Nat) (C D : Obj) :
    (Instr.lookup t (.map (some W0.heap.size)) (nameVal a b) false).run Try.prog (((plus (W0.alloc (.map (ents kv) kv.length)) os n).alloc C).alloc D) = .ok ((kvFind (a, b) kv).getD z) (((plus (W0.alloc (.map (ents kv) kv.length)) os n).alloc C).alloc D) :=
  lookup_ents K ht hz a b _ _ kv (mapWorld2_heap W0 kv os n C D)
theorem update_round2 {t kt et : TypeId} (K : PairKey kt) (ht : Try.prog.underlying t = some (.map kt et)) (a b : Int) (v : Value) (W0 : World) (kv : KV) (os : Array Obj) (n : Nat) (C D : Obj) :
    (Instr.mapUpdate t (.map (some W0.heap.size)) (nameVal a b) v).run Try.prog (((plus (W0.alloc (.map (ents kv) kv.length)) os n).alloc C).alloc D) = .ok () (((plus (W0.alloc (.map (ents (kvPut (a, b) v kv)) (kvPut (a, b) v kv).length)) os n).alloc C).alloc D) :=
  (update_ents K ht a b v _ kv _ (mapWorld2_heap W0 kv os n C D)).trans (by rw [mapWorld2_set]; rfl)

set_option maxHeartbeats 6400000 in
set_option maxRecDepth 100000 in
theorem rtoday_ok (A B : Option Addr) (c c2 : Nat) (xs : List St) (rs : List Rv) (d bn ba : Int) (w : World) (hA : StsAt w A xs) (hB : RvsAt w B rs) (h : statesErr xs = 0) (hrl : rs.length ≤ 20000) (hbn : 0 ≤ bn ∧ bn ≤ 5000) (hba : 0 ≤ ba ∧ ba ≤ 5000) :
    Calls Try.prog 71 #[.slice A xs.length c, .slice B rs.length c2, .int .i64 d, .agg #[.int .i64 bn, .int .i64 ba]] w (TodayOut (todayList xs d (cntFirst rs d rs.length) (cntAll rs d rs.length) bn ba) w) := by
  have hF1 := cntFirst_le rs d rs.length
  have hF2 := cntAll_le rs d rs.length
  have HB := hide hB
  have hgood := fun k (hk : k < xs.length) => asked_of_err (err_of_statesErr h k hk)
  have HG := hide hgood
  clear hB hgood
  obtain ⟨fst, hfst⟩ : ∃ q : Nat, q = cntFirst rs d rs.length := ⟨_, rfl⟩
  obtain ⟨als, hals⟩ : ∃ q : Nat, q = cntAll rs d rs.length := ⟨_, rfl⟩
  rw [← hfst, ← hals]
  rw [← hfst] at hF1
  rw [← hals] at hF2
  have HFS := hide hfst
  have HAL := hide hals
  clear hfst hals
  have hl := len_of_statesErr h
  have hdue := fun w h' => dueAt_any A c xs d w h' h
  have HDu := hide hdue
  have HA := hide hA
  have zL : max 0 (ba - (als : Int)) = (tdLeft (als : Int) ba : Int) := by unfold tdLeft; omega
  have hL5 : tdLeft (als : Int) ba ≤ 5000 := by unfold tdLeft; omega
  have hM : ∃ M : Nat, max 0 (bn - (fst : Int)) = (M : Int) := ⟨(max 0 (bn - (fst : Int))).toNat, by omega⟩
  obtain ⟨M, zM⟩ := hM
  have hM5 : M ≤ 5000 := by omega
  have hdl := dueList_le xs d
  have hout : (tdOut xs d (als : Int) ba).length = min (dueList xs d).length (tdLeft (als : Int) ba) := by unfold tdOut; rw [List.length_take]; omega
  have hroom : (tdRoom xs d (fst : Int) (als : Int) bn ba : Int) = min ((tdLeft (als : Int) ba : Int) - ((tdOut xs d (als : Int) ba).length : Int)) (M : Int) := by unfold tdRoom; rw [show max (bn - (fst : Int)) 0 = (M : Int) by omega]; omega
  have HT : Hid (∀ k, tdTo xs d (fst : Int) (als : Int) bn ba k = tdOut xs d (als : Int) ba ++ (pick (freshOn d) xs k).take (tdRoom xs d (fst : Int) (als : Int) bn ba)) := fun k => rfl
  have HO : Hid (tdOut xs d (als : Int) ba = (dueList xs d).take (tdLeft (als : Int) ba)) := rfl
  have HY := hide (fun (k : Nat) (x : St) (h1 : xs[k]? = some x) (h2 : freshOn d x = true) h3 => tdTo_yes (first := (fst : Int)) (all := (als : Int)) (bn := bn) (ba := ba) h1 h2 h3)
  have HF := hide (fun (k : Nat) (x : St) (h1 : xs[k]? = some x) h3 => tdTo_full (d := d) (first := (fst : Int)) (all := (als : Int)) (bn := bn) (ba := ba) h1 h3)
  have HN := hide (fun (k : Nat) (x : St) (h1 : xs[k]? = some x) (h2 : freshOn d x = false) => tdTo_no (first := (fst : Int)) (all := (als : Int)) (bn := bn) (ba := ba) h1 h2)
  have HLn := hide (tdTo_len xs d (fst : Int) (als : Int) bn ba)
  unfold todayList
  generalize tdTo xs d (fst : Int) (als : Int) bn ba = T at HT HY HF HN HLn ⊢
  generalize tdRoom xs d (fst : Int) (als : Int) bn ba = Rm at hroom HT HY HF
  generalize tdLeft (als : Int) ba = L at zL hL5 hout hroom HO
  generalize tdOut xs d (als : Int) ba = O at hout hroom HT HO
  obtain ⟨q, hq⟩ : ∃ q, q = O.length := ⟨_, rfl⟩
  have zq : min ((dueList xs d).length : Int) (L : Int) = (q : Int) := by omega
  have hqL : q ≤ L := by omega
  have zLq : max 0 (ba - (als : Int) - (q : Int)) = ((L - q : Nat) : Int) := by omega
  have zR : min (M : Int) ((L - q : Nat) : Int) = (Rm : Int) := by rw [hroom, ← hq]; omega
  have hqn : q ≤ (dueList xs d).length := by omega
  have hRm : Rm ≤ 5000 := by omega
  have HQ := hide hq
  clear hdue hA h hout hroom hq
  go_enter Try.func71, Try.ntmps71
  go_wp2
  go_loopw [9, 10, 22] (fun f1 a1 i wr => ∃ (k : Nat) (os : Array Obj) (n : Nat), k ≤ rs.length ∧ i = .int .i64 k ∧ f1 = .int .i64 (cntFirst rs d k) ∧ a1 = .int .i64 (cntAll rs d k) ∧ wr = plus ((w.alloc (.cells #[.int .i64 bn, .int .i64 ba] 43)).alloc (.map (ents (seenKV rs k)) (seenKV rs k).length)) os n)
    (fun _ _ i _ => rs.length - (intOf i).toNat)
  case atStart => exact ⟨0, #[], _, Nat.zero_le _, rfl, rfl, rfl, plus_nil.symm⟩
  case round =>
    obtain ⟨k, os, n, hk, rfl, rfl, rfl, rfl⟩ := hrel
    have hf1 := cntFirst_le rs d k
    have hf2 := cntAll_le rs d k
    by_cases hlt2 : k < rs.length
    · obtain ⟨b, off, rfl, hb, hcell⟩ := HB.out (by omega)
      have hrk : rs[k]? = some rs[k] := List.getElem?_eq_getElem hlt2
      obtain ⟨c0, c1, c2, c3⟩ := hcell k hlt2
      clear hcell zL zq zR zLq
      generalize rs[k] = r at c0 c1 c2 c3 hrk
      have HX := hide hrk
      have hup := update_round2 pair_arr Try.underlying109 r.bl r.no (.bool true) (w.alloc (.cells #[.int .i64 bn, .int .i64 ba] 43)) (seenKV rs k) os n (.cells #[.int .i64 r.bl, .int .i64 r.no, .int .i64 r.gr, .int .i64 r.da] 65) (.cells #[.int .i64 r.bl, .int .i64 r.no] 110)
      have hlk := lookup_round2 pair_arr Try.underlying109 zero_bool r.bl r.no (w.alloc (.cells #[.int .i64 bn, .int .i64 ba] 43)) (seenKV rs k) os n (.cells #[.int .i64 r.bl, .int .i64 r.no, .int .i64 r.gr, .int .i64 r.da] 65) (.cells #[.int .i64 r.bl, .int .i64 r.no] 110)
      rw [kvSet_find (seenKV_set rs k)] at hlk
      rw [← seenKV_succ hrk] at hup
      simp only [nameVal] at hup hlk
      simp only [World.size_alloc] at hup hlk
      clear hrk
      by_cases hd : r.da = d
      · have HD := hide hd
        have hdb : (r.da == d) = true := by simp [hd]
        clear hd
        cases hs : kvHas (r.bl, r.no) (seenKV rs k) with
        | true =>
          rw [hs] at hlk
          have HS := hide hs
          clear hs
          go_wp2
          go_roundw
          case rel => exact ⟨k + 1, _, _, hlt2, by go_num, by rw [cntFirst_no HX.out (by rw [HS.out]; simp)], by rw [cntAll_yes HX.out HD.out]; go_num, by rw [plus_alloc, plus_alloc]⟩
          case measure => simp [intOf]; omega
        | false =>
          rw [hs] at hlk
          have HS := hide hs
          clear hs
          go_wp2
          go_roundw
          case rel => exact ⟨k + 1, _, _, hlt2, by go_num, by rw [cntFirst_yes HX.out HD.out HS.out]; go_num, by rw [cntAll_yes HX.out HD.out]; go_num, by rw [plus_alloc, plus_alloc]⟩
          case measure => simp [intOf]; omega
      · have HD := hide hd
        have hdb : (r.da == d) = false := by simp [hd]
        clear hd hlk
        go_wp2
        go_roundw
        case rel => exact ⟨k + 1, _, _, hlt2, by go_num, by rw [cntFirst_no HX.out (fun h => HD.out h.1)], by rw [cntAll_no HX.out HD.out], by rw [plus_alloc, plus_alloc]⟩
        case measure => simp [intOf]; omega
    · have hkl : k = rs.length := by omega
      subst hkl
      rw [← HFS.out, ← HAL.out]
      clear hf1 hf2
      go_upto_region 14 with (go_at_call 67; refine (HDu.out _ (HA.out.below (by repeat (first | exact Below.refl _ _ | refine bl_plus ?_ | refine bl_alloc ?_ _ | refine bl_drew ?_)))).mono ?_; rintro e w' ⟨v, rfl, hhalf, hb⟩; obtain ⟨os2, n2, rfl⟩ := below_plus hb; clear hb)
      obtain ⟨Ad, cd, rfl, hcd⟩ := hhalf.form
      have hqc : q ≤ cd := by omega
      have hh := hhalf.take q hqn
      rw [HQ.out] at hh
      have hO2 : (dueList xs d).take O.length = O := by
        have h1 := HO.out
        have h2 := congrArg List.length h1
        rw [List.length_take] at h2
        have h3 : (dueList xs d).take O.length = (dueList xs d).take L := by rw [List.take_eq_take_iff]; omega
        rw [h3, ← h1]
      rw [hO2, ← HQ.out] at hh
      have HH := hide (hh.lower (base' := w.heap.size) (by rw [plus_size, World.size_alloc, World.size_alloc]; omega))
      clear hhalf hh hO2
      go_wp2
      obtain ⟨os4, n4, e4⟩ := below_plus (show Below w.heap.size w (plus (plus ((w.alloc (.cells #[.int .i64 bn, .int .i64 ba] 43)).alloc (.map (ents (seenKV rs rs.length)) (seenKV rs rs.length).length)) os n) os2 n2) from by repeat (first | exact Below.refl _ _ | refine bl_plus ?_ | refine bl_alloc ?_ _ | refine bl_drew ?_))
      have HH2 : Hid (HalfOwn (plus w os4 n4) w.heap.size (.slice Ad q cd) (T 0)) := by
        have h1 := HH.out
        have h2 : T 0 = O := by rw [HT.out 0]; simp [pick]
        rw [e4] at h1
        rw [h2]
        exact h1
      rw [e4]
      clear e4 HH zL zq zR zM zLq
      go_loopw [15, 16, 75] (fun v lf i wr => ∃ (k r : Nat) (os : Array Obj) (n : Nat), k ≤ xs.length ∧ i = .int .i64 k ∧ lf = .int .i64 r ∧ r = Rm - (pick (freshOn d) xs k).length ∧ wr = plus w os n ∧ HalfOwn wr w.heap.size v (T k))
        (fun _ _ i _ => xs.length - (intOf i).toNat)
      case atStart => exact ⟨0, Rm, _, _, Nat.zero_le _, rfl, rfl, by simp [pick], rfl, HH2.out⟩
      case round =>
        clear HH2
        obtain ⟨k, r, os, n, hk, rfl, rfl, hr, rfl, hown⟩ := hrel
        have hpl := pick_le (freshOn d) xs k
        have hTl := HLn.out k
        by_cases hlt : k < xs.length
        · obtain ⟨b, off, rfl, hb, hcell⟩ := HA.out (by omega)
          have hxk : xs[k]? = some xs[k] := List.getElem?_eq_getElem hlt
          have hc0 := hcell k hlt
          clear hcell
          have hgk := (HG.out k hlt).2
          generalize xs[k] = x at hc0 hxk hgk
          have hcases : ((0 < r ∧ (x.ti == 0) = true ∧ x.bu < d) ∧ freshOn d x = true) ∨ (0 < r ∧ ((x.ti == 0) = true ∧ ¬ x.bu < d) ∧ freshOn d x = false) ∨ (0 < r ∧ (x.ti == 0) = false ∧ freshOn d x = false) ∨ ¬ 0 < r := by
            unfold freshOn
            simp only [decide_eq_true_eq, decide_eq_false_iff_not, beq_iff_eq, beq_eq_false_iff_ne, ne_eq]
            omega
          clear hgk
          obtain ⟨c0, c1, c2, c3, c4, c5, c6, c7, c8⟩ := hc0
          have HX := hide hxk
          have hr5 : r ≤ 5000 := by omega
          have HR := hide hr
          clear hxk hr
          rcases hcases with ⟨⟨q1, q2, q3⟩, hp⟩ | ⟨q1, ⟨q2, q3⟩, hp⟩ | ⟨q1, q2, hp⟩ | q1
          · have q1z : (0 : Int) < (r : Int) := by omega
            have HP := hide hp
            clear hp
            go_wp2_with ((at_builtin; refine wpList_append_half rfl (.tmp 93) (.tmp 95) rfl rfl w.heap.size _ (T k) _ _ rfl (hown.alloc _) rfl (by simp [plus_size]) (by omega) (by simp [plus_size]; omega) ?_; intro v' w1 hown1 hb1; obtain ⟨os3, n3, rfl⟩ := over_plus (L := w) rfl (by repeat (first | exact Below.refl _ _ | refine bl_plus ?_ | refine bl_alloc ?_ _ | refine bl_drew ?_)) hb1; clear hb1))
            go_roundw
            case rel => exact ⟨k + 1, r - 1, _, _, hlt, by go_num, by go_num, by rw [pick_yes HX.out HP.out]; simp; have := HR.out; omega, rfl, by rw [HY.out k x HX.out HP.out (by have := HR.out; omega)]; exact hown1⟩
            case measure => simp [intOf]; omega
          · have q1z : (0 : Int) < (r : Int) := by omega
            have HP := hide hp
            clear hp
            go_wp2
            go_roundw
            case rel => exact ⟨k + 1, r, _, _, hlt, by go_num, rfl, by rw [pick_no HX.out HP.out]; exact HR.out, by rw [plus_alloc], by rw [HN.out k x HX.out HP.out]; exact hown.alloc _⟩
            case measure => simp [intOf]; omega
          · have q1z : (0 : Int) < (r : Int) := by omega
            have HP := hide hp
            clear hp
            go_wp2
            go_roundw
            case rel => exact ⟨k + 1, r, _, _, hlt, by go_num, rfl, by rw [pick_no HX.out HP.out]; exact HR.out, by rw [plus_alloc], by rw [HN.out k x HX.out HP.out]; exact hown.alloc _⟩
            case measure => simp [intOf]; omega
          · have q1z : ¬ (0 : Int) < (r : Int) := by omega
            go_wp2
            go_roundw
            case rel =>
              refine ⟨k + 1, r, _, _, hlt, by go_num, rfl, ?_, by rw [plus_alloc], by rw [HF.out k x HX.out (by have := HR.out; omega)]; exact hown.alloc _⟩
              have h1 := HR.out
              cases hp : freshOn d x with
              | true => rw [pick_yes HX.out hp]; simp; omega
              | false => rw [pick_no HX.out hp]; exact h1
            case measure => simp [intOf]; omega
        · have hkl : k = xs.length := by omega
          subst hkl
          obtain ⟨B, c', rfl, hnc⟩ := hown.form
          have HW := hide hown
          clear hown
          go_wp2
          go_returns
          exact ⟨_, rfl, HW.out, by repeat (first | exact Below.refl _ _ | refine bl_plus ?_ | refine bl_alloc ?_ _ | refine bl_drew ?_)⟩

end Go.Proofs.Ytokghdcfbbogdaa
