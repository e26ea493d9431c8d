/-
  WALKS: Today.
-/
import Derived.Test.YtokghdcfbbogdaaToday
import Derived.Test.YtokghdcfbbogdaaWalkH
namespace Go.Proofs.Ytokghdcfbbogdaa
open Go.RowKit

def todayR (xs : List St) (rs : List Rv) (d bn ba : Int) : List Int × Int :=
  if onErr xs d = 0 then (if bndOk bn ba then (if 20000 < rs.length then ([], 4) else (todayList xs d (cntFirst rs d rs.length) (cntAll rs d rs.length) bn ba, 0)) else ([], 2)) else ([], onErr xs d)
theorem intsOut_half {w w' : World} {v : Value} {ns : List Int} {d : Int} (h : HalfOwn w' w.heap.size v ns) (hb : Below w.heap.size w w') : IntsOut (ns, d) w (.returned (.tuple #[v, .int .i64 d])) w' := by
  obtain ⟨A, c, rfl, _⟩ := h.form
  obtain ⟨_, h2, _, h4⟩ := h.ints
  exact ⟨A, c, rfl, h2, h4, hb⟩
theorem zero_bool (w : World) : (zeroValue 4).run Try.prog w = .ok (.bool false) w := by
  simp [go_sem]
attribute [local go_sem high] run_makeMap

/-- The world of a round: a map, what came since, a block of one's own, what came since. -/
def mapWorld (W0 : World) (kv : KV) (os : Array Obj) (n : Nat) (C : Obj) (os3 : Array Obj) (n3 : Nat) : World := plus ((plus (W0.alloc (.map (ents kv) kv.length)) os n).alloc C) os3 n3
theorem mapWorld_heap (W0 : World) (kv : KV) (os : Array Obj) (n : Nat) (C : Obj) (os3 : Array Obj) (n3 : Nat) : (mapWorld W0 kv os n C os3 n3).heap[W0.heap.size]? = some (.map (ents kv) kv.length) := by
  unfold mapWorld
  rw [plus_heap (by rw [World.size_alloc, plus_size, World.size_alloc]; omega), Below.heap_alloc _ _ _ (by rw [plus_size, World.size_alloc]; omega), plus_heap (by rw [World.size_alloc]; omega)]
  exact heap_alloc_new W0 _
theorem mapWorld_set (W0 : World) (kv kv' : KV) (os : Array Obj) (n : Nat) (C : Obj) (os3 : Array Obj) (n3 : Nat) : setMap (mapWorld W0 kv os n C os3 n3) W0.heap.size (.map (ents kv') kv'.length) = mapWorld W0 kv' os n C os3 n3 := by
  unfold mapWorld
  rw [plus_setMap (by rw [World.size_alloc, plus_size, World.size_alloc]; omega), alloc_setMap_old (by rw [plus_size, World.size_alloc]; omega), plus_setMap (by rw [World.size_alloc]; omega), alloc_setMap_new]
theorem lookup_round {t kt et : TypeId} (K : PairKey kt) (ht : Try.prog.underlying t = some (.map kt et)) {z : Value} (hz : ∀ w, (zeroValue et).run Try.prog w = .ok z w) (a b : Int) (W0 : World) (kv : KV) (os : Array Obj) (n : Nat) (C : Obj) (os3 : Array Obj) (n3 : Nat) :
    (Instr.lookup t (.map (some W0.heap.size)) (nameVal a b) false).run Try.prog (plus ((plus (W0.alloc (.map (ents kv) kv.length)) os n).alloc C) os3 n3) = .ok ((kvFind (a, b) kv).getD z) (plus ((plus (W0.alloc (.map (ents kv) kv.length)) os n).alloc C) os3 n3) :=
  lookup_ents K ht hz a b _ _ kv (mapWorld_heap W0 kv os n C os3 n3)
theorem update_round {t kt et : TypeId} (K : PairKey kt) (ht : Try.prog.underlying t = some (.map kt et)) (a b : Int) (v : Value) (W0 : World) (kv : KV) (os : Array Obj) (n : Nat) (C : Obj) (os3 : Array Obj) (n3 : Nat) :
    (Instr.mapUpdate t (.map (some W0.heap.size)) (nameVal a b) v).run Try.prog (plus ((plus (W0.alloc (.map (ents kv) kv.length)) os n).alloc C) os3 n3) = .ok () (plus ((plus (W0.alloc (.map (ents (kvPut (a, b) v kv)) (kvPut (a, b) v kv).length)) os n).alloc C) os3 n3) :=
  (update_ents K ht a b v _ kv _ (mapWorld_heap W0 kv os n C os3 n3)).trans (by rw [mapWorld_set]; rfl)

set_option maxHeartbeats 3200000 in
set_option maxRecDepth 100000 in
theorem todayF_ok (A B : Option Addr) (c c2 : Nat) (xs : List St) (rs : List Rv) (d bn ba : Int) (w : World) (hA : StsAt w A xs) (hB : RvsAt w B rs) (h : onErr xs d = 0) (hbd : bndOk bn ba) (hrl : rs.length ≤ 20000) :
    Calls Try.prog 27 #[.slice A xs.length c, .slice B rs.length c2, .int .i64 d, .agg #[.int .i64 bn, .int .i64 ba]] w (IntsOut (todayR xs rs d bn ba) w) := by
  have hR : todayR xs rs d bn ba = (todayList xs d (cntFirst rs d rs.length) (cntAll rs d rs.length) bn ba, 0) := by unfold todayR; rw [if_pos h, if_pos hbd, if_neg (by omega)]
  rw [hR]
  have hck := fun w h => checkOn_any A c xs d w h
  rw [h] at hck
  have hcb := fun w => checkBounds_any bn ba w
  rw [if_pos hbd] at hcb
  have hst := (onErr_zero h).1
  have hf1 := cntFirst_le rs d rs.length
  have hf2 := cntAll_le rs d rs.length
  have htd := fun w hA => today_ok A c xs d (cntFirst rs d rs.length) (cntAll rs d rs.length) bn ba w hA hst (by omega) (by omega) hbd.1 hbd.2
  have H1 := hide hck
  have H2 := hide hcb
  have H3 := hide htd
  have HA := hide hA
  have HB := hide hB
  clear hck hcb htd hA hB hR h hst hbd hf1 hf2
  have hrl' : ¬ (20000 : Int) < (rs.length : Int) := by omega
  go_enter Try.func27, Try.ntmps27
  go_upto_region 9 with (first | (go_at_call 65; refine (H1.out _ (HA.out.alloc _)).mono ?_; rintro e w' ⟨rfl, hb⟩; obtain ⟨os1, n1, rfl⟩ := below_plus hb; clear hb) | (go_at_call 68; refine (H2.out _).mono ?_; rintro e w' ⟨rfl, hb⟩; obtain ⟨os2, n2, rfl⟩ := below_plus hb; clear hb))
  have hbox : (plus (plus (w.alloc (.cells #[.int .i64 bn, .int .i64 ba] 43)) os1 n1) os2 n2).cell? ⟨w.heap.size, 0, none⟩ = some (.int .i64 bn) ∧ (plus (plus (w.alloc (.cells #[.int .i64 bn, .int .i64 ba] 43)) os1 n1) os2 n2).cell? ⟨w.heap.size, 1, none⟩ = some (.int .i64 ba) := by
    rw [plus_cell (by rw [plus_size, World.size_alloc]; omega), plus_cell (by rw [World.size_alloc]; omega), plus_cell (by rw [plus_size, World.size_alloc]; omega), plus_cell (by rw [World.size_alloc]; omega)]
    simp
  have hW : Below w.heap.size w (plus (plus (w.alloc (.cells #[.int .i64 bn, .int .i64 ba] 43)) os1 n1) os2 n2) := by repeat (first | exact Below.refl _ _ | refine bl_plus ?_ | refine bl_alloc ?_ _ | refine bl_drew ?_)
  have hlt : w.heap.size < (plus (plus (w.alloc (.cells #[.int .i64 bn, .int .i64 ba] 43)) os1 n1) os2 n2).heap.size := by rw [plus_size, plus_size, World.size_alloc]; omega
  generalize plus (plus (w.alloc (.cells #[.int .i64 bn, .int .i64 ba] 43)) os1 n1) os2 n2 = W0 at hbox hW hlt ⊢
  obtain ⟨hbox0, hbox1⟩ := hbox
  have HW := hide hW
  clear hW
  go_wp2
  go_loopw [13, 14, 34] (fun f1 a1 i wr => ∃ (k : Nat) (os : Array Obj) (n : Nat), k ≤ rs.length ∧ i = .int .i64 k ∧ f1 = .int .i64 (cntFirst rs d k) ∧ a1 = .int .i64 (cntAll rs d k) ∧ wr = plus (W0.alloc (.map (ents (seenKV rs k)) (seenKV rs k).length)) os n)
    (fun _ _ i _ => rs.length - (intOf i).toNat)
  case atStart => exact ⟨0, #[], _, Nat.zero_le _, rfl, rfl, rfl, plus_nil.symm⟩
  case round =>
    obtain ⟨k, os, n, hk, rfl, rfl, rfl, rfl⟩ := hrel
    have hf1 := cntFirst_le rs d k
    have hf2 := cntAll_le rs d k
    by_cases hlt2 : k < rs.length
    · obtain ⟨b, off, rfl, hb, hcell⟩ := HB.out (by omega)
      have hb0 : b < W0.heap.size := by have := HW.out.size; omega
      have hrk : rs[k]? = some rs[k] := List.getElem?_eq_getElem hlt2
      obtain ⟨c0, c1, c2, c3⟩ := hcell k hlt2
      clear hcell
      generalize rs[k] = r at c0 c1 c2 c3 hrk
      have hc0 : W0.cell? ⟨b, off + k * 4, none⟩ = some (.int .i64 r.bl) := (HW.out.cell (p := ⟨b, _, none⟩) hb).trans c0
      have hc1 : W0.cell? ⟨b, off + k * 4 + 1, none⟩ = some (.int .i64 r.no) := (HW.out.cell (p := ⟨b, _, none⟩) hb).trans c1
      have hc2 : W0.cell? ⟨b, off + k * 4 + 2, none⟩ = some (.int .i64 r.gr) := (HW.out.cell (p := ⟨b, _, none⟩) hb).trans c2
      have hc3 : W0.cell? ⟨b, off + k * 4 + 3, none⟩ = some (.int .i64 r.da) := (HW.out.cell (p := ⟨b, _, none⟩) hb).trans c3
      clear c0 c1 c2 c3
      have hnm := fun w => reviewName_any r.bl r.no r.gr r.da w
      try simp only [nameVal] at hnm
      have HNM := hide hnm
      have HX := hide hrk
      have hup := fun os3 n3 => update_round pair_name Try.underlying89 r.bl r.no (.bool true) W0 (seenKV rs k) os n (.cells #[.int .i64 r.bl, .int .i64 r.no, .int .i64 r.gr, .int .i64 r.da] 65) os3 n3
      have hlk := fun os3 n3 => lookup_round pair_name Try.underlying89 zero_bool r.bl r.no W0 (seenKV rs k) os n (.cells #[.int .i64 r.bl, .int .i64 r.no, .int .i64 r.gr, .int .i64 r.da] 65) os3 n3
      rw [kvSet_find (seenKV_set rs k)] at hlk
      rw [← seenKV_succ hrk] at hup
      simp only [nameVal] at hup hlk
      clear hnm hrk
      by_cases hd : r.da = d
      · have HD := hide hd
        have hdb : (r.da == d) = true := by simp [hd]
        clear hd
        cases hs : kvHas (r.bl, r.no) (seenKV rs k) with
        | true =>
          rw [hs] at hlk
          have HS := hide hs
          clear hs
          go_wp2_with (go_at_call 53; refine (HNM.out _).mono ?_; rintro e w' ⟨rfl, hb⟩; obtain ⟨os3, n3, rfl⟩ := below_plus hb; clear hb; try rw [plus_plus])
          go_roundw
          case rel => exact ⟨k + 1, _, _, hlt2, by go_num, by rw [cntFirst_no HX.out (by rw [HS.out]; simp)], by rw [cntAll_yes HX.out HD.out]; go_num, by rw [plus_alloc, plus_plus]⟩
          case measure => simp [intOf]; omega
        | false =>
          rw [hs] at hlk
          have HS := hide hs
          clear hs
          go_wp2_with (go_at_call 53; refine (HNM.out _).mono ?_; rintro e w' ⟨rfl, hb⟩; obtain ⟨os3, n3, rfl⟩ := below_plus hb; clear hb; try rw [plus_plus])
          go_roundw
          case rel => exact ⟨k + 1, _, _, hlt2, by go_num, by rw [cntFirst_yes HX.out HD.out HS.out]; go_num, by rw [cntAll_yes HX.out HD.out]; go_num, by rw [plus_alloc, plus_plus]⟩
          case measure => simp [intOf]; omega
      · have HD := hide hd
        have hdb : (r.da == d) = false := by simp [hd]
        clear hd hlk
        go_wp2_with (go_at_call 53; refine (HNM.out _).mono ?_; rintro e w' ⟨rfl, hb⟩; obtain ⟨os3, n3, rfl⟩ := below_plus hb; clear hb)
        go_roundw
        case rel => exact ⟨k + 1, _, _, hlt2, by go_num, by rw [cntFirst_no HX.out (fun h => HD.out h.1)], by rw [cntAll_no HX.out HD.out], by rw [plus_alloc, plus_plus]⟩
        case measure => simp [intOf]; omega
    · have hkl : k = rs.length := by omega
      subst hkl
      go_wp2_with (go_at_call 69; refine (H3.out _ (HA.out.below (by repeat (first | exact HW.out | exact Below.refl _ _ | refine bl_plus ?_ | refine bl_alloc ?_ _ | refine bl_drew ?_)))).mono ?_; rintro e w' ⟨v, rfl, hh, hb⟩; obtain ⟨os3, n3, rfl⟩ := below_plus hb; clear hb; have HH := hide hh; clear hh)
      go_returns
      exact intsOut_half (HH.out.lower (by rw [plus_size, World.size_alloc]; omega)) (by repeat (first | exact HW.out | exact Below.refl _ _ | refine bl_plus ?_ | refine bl_alloc ?_ _ | refine bl_drew ?_))

set_option maxHeartbeats 1600000 in
set_option maxRecDepth 100000 in
theorem todayF_bad (A B : Option Addr) (c c2 : Nat) (xs : List St) (rs : List Rv) (d bn ba : Int) (w : World) (hA : StsAt w A xs) (h : onErr xs d ≠ 0) :
    Calls Try.prog 27 #[.slice A xs.length c, .slice B rs.length c2, .int .i64 d, .agg #[.int .i64 bn, .int .i64 ba]] w (IntsOut (todayR xs rs d bn ba) w) := by
  have hR : todayR xs rs d bn ba = ([], onErr xs d) := by unfold todayR; rw [if_neg h]
  rw [hR]
  have hck := fun w h => checkOn_any A c xs d w h
  generalize onErr xs d = r at hck h ⊢
  have hr : (r == 0) = false := by simp [h]
  have H1 := hide hck
  have HA := hide hA
  clear hck h hA hR
  go_enter Try.func27, Try.ntmps27
  go_wp2_with (go_at_call 65; refine (H1.out _ (HA.out.alloc _)).mono ?_; rintro e w' ⟨rfl, hb⟩; obtain ⟨os1, n1, rfl⟩ := below_plus hb; clear hb)
  go_returns
  exact intsOut_err (by repeat (first | exact Below.refl _ _ | refine bl_plus ?_ | refine bl_alloc ?_ _ | refine bl_drew ?_))

set_option maxHeartbeats 1600000 in
set_option maxRecDepth 100000 in
theorem todayF_bound (A B : Option Addr) (c c2 : Nat) (xs : List St) (rs : List Rv) (d bn ba : Int) (w : World) (hA : StsAt w A xs) (h : onErr xs d = 0) (hbd : ¬ bndOk bn ba) :
    Calls Try.prog 27 #[.slice A xs.length c, .slice B rs.length c2, .int .i64 d, .agg #[.int .i64 bn, .int .i64 ba]] w (IntsOut (todayR xs rs d bn ba) w) := by
  have hR : todayR xs rs d bn ba = ([], 2) := by unfold todayR; rw [if_pos h, if_neg hbd]
  rw [hR]
  have hck := fun w h => checkOn_any A c xs d w h
  rw [h] at hck
  have hcb := fun w => checkBounds_any bn ba w
  rw [if_neg hbd] at hcb
  have H1 := hide hck
  have H2 := hide hcb
  have HA := hide hA
  clear hck h hA hR hcb hbd
  go_enter Try.func27, Try.ntmps27
  go_wp2_with (first | (go_at_call 65; refine (H1.out _ (HA.out.alloc _)).mono ?_; rintro e w' ⟨rfl, hb⟩; obtain ⟨os1, n1, rfl⟩ := below_plus hb; clear hb) | (go_at_call 68; refine (H2.out _).mono ?_; rintro e w' ⟨rfl, hb⟩; obtain ⟨os2, n2, rfl⟩ := below_plus hb; clear hb))
  go_returns
  exact intsOut_err (by repeat (first | exact Below.refl _ _ | refine bl_plus ?_ | refine bl_alloc ?_ _ | refine bl_drew ?_))

set_option maxHeartbeats 1600000 in
set_option maxRecDepth 100000 in
theorem todayF_long (A B : Option Addr) (c c2 : Nat) (xs : List St) (rs : List Rv) (d bn ba : Int) (w : World) (hA : StsAt w A xs) (h : onErr xs d = 0) (hbd : bndOk bn ba) (hrl : 20000 < rs.length) :
    Calls Try.prog 27 #[.slice A xs.length c, .slice B rs.length c2, .int .i64 d, .agg #[.int .i64 bn, .int .i64 ba]] w (IntsOut (todayR xs rs d bn ba) w) := by
  have hR : todayR xs rs d bn ba = ([], 4) := by unfold todayR; rw [if_pos h, if_pos hbd, if_pos hrl]
  rw [hR]
  have hck := fun w h => checkOn_any A c xs d w h
  rw [h] at hck
  have hcb := fun w => checkBounds_any bn ba w
  rw [if_pos hbd] at hcb
  have H1 := hide hck
  have H2 := hide hcb
  have HA := hide hA
  clear hck h hA hR hcb hbd
  have hrl' : (20000 : Int) < (rs.length : Int) := by omega
  go_enter Try.func27, Try.ntmps27
  go_wp2_with (first | (go_at_call 65; refine (H1.out _ (HA.out.alloc _)).mono ?_; rintro e w' ⟨rfl, hb⟩; obtain ⟨os1, n1, rfl⟩ := below_plus hb; clear hb) | (go_at_call 68; refine (H2.out _).mono ?_; rintro e w' ⟨rfl, hb⟩; obtain ⟨os2, n2, rfl⟩ := below_plus hb; clear hb))
  go_returns
  exact intsOut_err (by repeat (first | exact Below.refl _ _ | refine bl_plus ?_ | refine bl_alloc ?_ _ | refine bl_drew ?_))

theorem todayF_any (A B : Option Addr) (c c2 : Nat) (xs : List St) (rs : List Rv) (d bn ba : Int) (w : World) (hA : StsAt w A xs) (hB : RvsAt w B rs) :
    Calls Try.prog 27 #[.slice A xs.length c, .slice B rs.length c2, .int .i64 d, .agg #[.int .i64 bn, .int .i64 ba]] w (IntsOut (todayR xs rs d bn ba) w) := by
  by_cases h : onErr xs d = 0
  · by_cases hbd : bndOk bn ba
    · by_cases hrl : 20000 < rs.length
      · exact todayF_long A B c c2 xs rs d bn ba w hA h hbd hrl
      · exact todayF_ok A B c c2 xs rs d bn ba w hA hB h hbd (by omega)
    · exact todayF_bound A B c c2 xs rs d bn ba w hA h hbd
  · exact todayF_bad A B c c2 xs rs d bn ba w hA h

end Go.Proofs.Ytokghdcfbbogdaa
/-
  WALKS: the reference's today.
-/
namespace Go.Proofs.Ytokghdcfbbogdaa
open Go.RowKit
attribute [local go_sem high] run_max_i run_min_i run_makeMap

def mapWorld2 (W0 : World) (kv : KV) (os : Array Obj) (n : Nat) (C D : Obj) : World := ((plus (W0.alloc (.map (ents kv) kv.length)) os n).alloc C).alloc D
theorem mapWorld2_heap (W0 : World) (kv : KV) (os : Array Obj) (n : Nat) (C D : Obj) : (mapWorld2 W0 kv os n C D).heap[W0.heap.size]? = some (.map (ents kv) kv.length) := by
  unfold mapWorld2
  rw [Below.heap_alloc _ _ _ (by rw [World.size_alloc, plus_size, World.size_alloc]; omega), Below.heap_alloc _ _ _ (by rw [plus_size, World.size_alloc]; omega), plus_heap (by rw [World.size_alloc]; omega)]
  exact heap_alloc_new W0 _
theorem mapWorld2_set (W0 : World) (kv kv' : KV) (os : Array Obj) (n : Nat) (C D : Obj) : setMap (mapWorld2 W0 kv os n C D) W0.heap.size (.map (ents kv') kv'.length) = mapWorld2 W0 kv' os n C D := by
  unfold mapWorld2
  rw [alloc_setMap_old (by rw [World.size_alloc, plus_size, World.size_alloc]; omega), alloc_setMap_old (by rw [plus_size, World.size_alloc]; omega), plus_setMap (by rw [World.size_alloc]; omega), alloc_setMap_new]
theorem lookup_round2 {t kt et : TypeId} (K : PairKey kt) (ht : Try.prog.underlying t = some (.map kt et)) {z : Value} (hz : ∀ w, (zeroValue et).run Try.prog w = .ok z w) (a b : Int) (W0 : World) (kv : KV) (os : Array Obj) (n : Nat) (C D : Obj) :
    (Instr.lookup t (.map (some W0.heap.size)) (nameVal a b) false).run Try.prog (((plus (W0.alloc (.map (ents kv) kv.length)) os n).alloc C).alloc D) = .ok ((kvFind (a, b) kv).getD z) (((plus (W0.alloc (.map (ents kv) kv.length)) os n).alloc C).alloc D) :=
  lookup_ents K ht hz a b _ _ kv (mapWorld2_heap W0 kv os n C D)
theorem update_round2 {t kt et : TypeId} (K : PairKey kt) (ht : Try.prog.underlying t = some (.map kt et)) (a b : Int) (v : Value) (W0 : World) (kv : KV) (os : Array Obj) (n : Nat) (C D : Obj) :
    (Instr.mapUpdate t (.map (some W0.heap.size)) (nameVal a b) v).run Try.prog (((plus (W0.alloc (.map (ents kv) kv.length)) os n).alloc C).alloc D) = .ok () (((plus (W0.alloc (.map (ents (kvPut (a, b) v kv)) (kvPut (a, b) v kv).length)) os n).alloc C).alloc D) :=
  (update_ents K ht a b v _ kv _ (mapWorld2_heap W0 kv os n C D)).trans (by rw [mapWorld2_set]; rfl)

set_option maxHeartbeats 6400000 in
set_option maxRecDepth 100000 in
theorem rtoday_ok (A B : Option Addr) (c c2 : Nat) (xs : List St) (rs : List Rv) (d bn ba : Int) (w : World) (hA : StsAt w A xs) (hB : RvsAt w B rs) (h : statesErr xs = 0) (hrl : rs.length ≤ 20000) (hbn : 0 ≤ bn ∧ bn ≤ 5000) (hba : 0 ≤ ba ∧ ba ≤ 5000) :
    Calls Try.prog 71 #[.slice A xs.length c, .slice B rs.length c2, .int .i64 d, .agg #[.int .i64 bn, .int .i64 ba]] w (TodayOut (todayList xs d (cntFirst rs d rs.length) (cntAll rs d rs.length) bn ba) w) := by
  have hF1 := cntFirst_le rs d rs.length
  have hF2 := cntAll_le rs d rs.length
  have HB := hide hB
  have hgood := fun k (hk : k < xs.length) => asked_of_err (err_of_statesErr h k hk)
  have HG := hide hgood
  clear hB hgood
  obtain ⟨fst, hfst⟩ : ∃ q : Nat, q = cntFirst rs d rs.length := ⟨_, rfl⟩
  obtain ⟨als, hals⟩ : ∃ q : Nat, q = cntAll rs d rs.length := ⟨_, rfl⟩
  rw [← hfst, ← hals]
  rw [← hfst] at hF1
  rw [← hals] at hF2
  have HFS := hide hfst
  have HAL := hide hals
  clear hfst hals
  have hl := len_of_statesErr h
  have hdue := fun w h' => dueAt_any A c xs d w h' h
  have HDu := hide hdue
  have HA := hide hA
  have zL : max 0 (ba - (als : Int)) = (tdLeft (als : Int) ba : Int) := by unfold tdLeft; omega
  have hL5 : tdLeft (als : Int) ba ≤ 5000 := by unfold tdLeft; omega
  have hM : ∃ M : Nat, max 0 (bn - (fst : Int)) = (M : Int) := ⟨(max 0 (bn - (fst : Int))).toNat, by omega⟩
  obtain ⟨M, zM⟩ := hM
  have hM5 : M ≤ 5000 := by omega
  have hdl := dueList_le xs d
  have hout : (tdOut xs d (als : Int) ba).length = min (dueList xs d).length (tdLeft (als : Int) ba) := by unfold tdOut; rw [List.length_take]; omega
  have hroom : (tdRoom xs d (fst : Int) (als : Int) bn ba : Int) = min ((tdLeft (als : Int) ba : Int) - ((tdOut xs d (als : Int) ba).length : Int)) (M : Int) := by unfold tdRoom; rw [show max (bn - (fst : Int)) 0 = (M : Int) by omega]; omega
  have HT : Hid (∀ k, tdTo xs d (fst : Int) (als : Int) bn ba k = tdOut xs d (als : Int) ba ++ (pick (freshOn d) xs k).take (tdRoom xs d (fst : Int) (als : Int) bn ba)) := fun k => rfl
  have HO : Hid (tdOut xs d (als : Int) ba = (dueList xs d).take (tdLeft (als : Int) ba)) := rfl
  have HY := hide (fun (k : Nat) (x : St) (h1 : xs[k]? = some x) (h2 : freshOn d x = true) h3 => tdTo_yes (first := (fst : Int)) (all := (als : Int)) (bn := bn) (ba := ba) h1 h2 h3)
  have HF := hide (fun (k : Nat) (x : St) (h1 : xs[k]? = some x) h3 => tdTo_full (d := d) (first := (fst : Int)) (all := (als : Int)) (bn := bn) (ba := ba) h1 h3)
  have HN := hide (fun (k : Nat) (x : St) (h1 : xs[k]? = some x) (h2 : freshOn d x = false) => tdTo_no (first := (fst : Int)) (all := (als : Int)) (bn := bn) (ba := ba) h1 h2)
  have HLn := hide (tdTo_len xs d (fst : Int) (als : Int) bn ba)
  unfold todayList
  generalize tdTo xs d (fst : Int) (als : Int) bn ba = T at HT HY HF HN HLn ⊢
  generalize tdRoom xs d (fst : Int) (als : Int) bn ba = Rm at hroom HT HY HF
  generalize tdLeft (als : Int) ba = L at zL hL5 hout hroom HO
  generalize tdOut xs d (als : Int) ba = O at hout hroom HT HO
  obtain ⟨q, hq⟩ : ∃ q, q = O.length := ⟨_, rfl⟩
  have zq : min ((dueList xs d).length : Int) (L : Int) = (q : Int) := by omega
  have hqL : q ≤ L := by omega
  have zLq : max 0 (ba - (als : Int) - (q : Int)) = ((L - q : Nat) : Int) := by omega
  have zR : min (M : Int) ((L - q : Nat) : Int) = (Rm : Int) := by rw [hroom, ← hq]; omega
  have hqn : q ≤ (dueList xs d).length := by omega
  have hRm : Rm ≤ 5000 := by omega
  have HQ := hide hq
  clear hdue hA h hout hroom hq
  go_enter Try.func71, Try.ntmps71
  go_wp2
  go_loopw [9, 10, 22] (fun f1 a1 i wr => ∃ (k : Nat) (os : Array Obj) (n : Nat), k ≤ rs.length ∧ i = .int .i64 k ∧ f1 = .int .i64 (cntFirst rs d k) ∧ a1 = .int .i64 (cntAll rs d k) ∧ wr = plus ((w.alloc (.cells #[.int .i64 bn, .int .i64 ba] 43)).alloc (.map (ents (seenKV rs k)) (seenKV rs k).length)) os n)
    (fun _ _ i _ => rs.length - (intOf i).toNat)
  case atStart => exact ⟨0, #[], _, Nat.zero_le _, rfl, rfl, rfl, plus_nil.symm⟩
  case round =>
    obtain ⟨k, os, n, hk, rfl, rfl, rfl, rfl⟩ := hrel
    have hf1 := cntFirst_le rs d k
    have hf2 := cntAll_le rs d k
    by_cases hlt2 : k < rs.length
    · obtain ⟨b, off, rfl, hb, hcell⟩ := HB.out (by omega)
      have hrk : rs[k]? = some rs[k] := List.getElem?_eq_getElem hlt2
      obtain ⟨c0, c1, c2, c3⟩ := hcell k hlt2
      clear hcell zL zq zR zLq
      generalize rs[k] = r at c0 c1 c2 c3 hrk
      have HX := hide hrk
      have hup := update_round2 pair_arr Try.underlying109 r.bl r.no (.bool true) (w.alloc (.cells #[.int .i64 bn, .int .i64 ba] 43)) (seenKV rs k) os n (.cells #[.int .i64 r.bl, .int .i64 r.no, .int .i64 r.gr, .int .i64 r.da] 65) (.cells #[.int .i64 r.bl, .int .i64 r.no] 110)
      have hlk := lookup_round2 pair_arr Try.underlying109 zero_bool r.bl r.no (w.alloc (.cells #[.int .i64 bn, .int .i64 ba] 43)) (seenKV rs k) os n (.cells #[.int .i64 r.bl, .int .i64 r.no, .int .i64 r.gr, .int .i64 r.da] 65) (.cells #[.int .i64 r.bl, .int .i64 r.no] 110)
      rw [kvSet_find (seenKV_set rs k)] at hlk
      rw [← seenKV_succ hrk] at hup
      simp only [nameVal] at hup hlk
      simp only [World.size_alloc] at hup hlk
      clear hrk
      by_cases hd : r.da = d
      · have HD := hide hd
        have hdb : (r.da == d) = true := by simp [hd]
        clear hd
        cases hs : kvHas (r.bl, r.no) (seenKV rs k) with
        | true =>
          rw [hs] at hlk
          have HS := hide hs
          clear hs
          go_wp2
          go_roundw
          case rel => exact ⟨k + 1, _, _, hlt2, by go_num, by rw [cntFirst_no HX.out (by rw [HS.out]; simp)], by rw [cntAll_yes HX.out HD.out]; go_num, by rw [plus_alloc, plus_alloc]⟩
          case measure => simp [intOf]; omega
        | false =>
          rw [hs] at hlk
          have HS := hide hs
          clear hs
          go_wp2
          go_roundw
          case rel => exact ⟨k + 1, _, _, hlt2, by go_num, by rw [cntFirst_yes HX.out HD.out HS.out]; go_num, by rw [cntAll_yes HX.out HD.out]; go_num, by rw [plus_alloc, plus_alloc]⟩
          case measure => simp [intOf]; omega
      · have HD := hide hd
        have hdb : (r.da == d) = false := by simp [hd]
        clear hd hlk
        go_wp2
        go_roundw
        case rel => exact ⟨k + 1, _, _, hlt2, by go_num, by rw [cntFirst_no HX.out (fun h => HD.out h.1)], by rw [cntAll_no HX.out HD.out], by rw [plus_alloc, plus_alloc]⟩
        case measure => simp [intOf]; omega
    · have hkl : k = rs.length := by omega
      subst hkl
      rw [← HFS.out, ← HAL.out]
      clear hf1 hf2
      go_upto_region 14 with (go_at_call 67; refine (HDu.out _ (HA.out.below (by repeat (first | exact Below.refl _ _ | refine bl_plus ?_ | refine bl_alloc ?_ _ | refine bl_drew ?_)))).mono ?_; rintro e w' ⟨v, rfl, hhalf, hb⟩; obtain ⟨os2, n2, rfl⟩ := below_plus hb; clear hb)
      obtain ⟨Ad, cd, rfl, hcd⟩ := hhalf.form
      have hqc : q ≤ cd := by omega
      have hh := hhalf.take q hqn
      rw [HQ.out] at hh
      have hO2 : (dueList xs d).take O.length = O := by
        have h1 := HO.out
        have h2 := congrArg List.length h1
        rw [List.length_take] at h2
        have h3 : (dueList xs d).take O.length = (dueList xs d).take L := by rw [List.take_eq_take_iff]; omega
        rw [h3, ← h1]
      rw [hO2, ← HQ.out] at hh
      have HH := hide (hh.lower (base' := w.heap.size) (by rw [plus_size, World.size_alloc, World.size_alloc]; omega))
      clear hhalf hh hO2
      go_wp2
      obtain ⟨os4, n4, e4⟩ := below_plus (show Below w.heap.size w (plus (plus ((w.alloc (.cells #[.int .i64 bn, .int .i64 ba] 43)).alloc (.map (ents (seenKV rs rs.length)) (seenKV rs rs.length).length)) os n) os2 n2) from by repeat (first | exact Below.refl _ _ | refine bl_plus ?_ | refine bl_alloc ?_ _ | refine bl_drew ?_))
      have HH2 : Hid (HalfOwn (plus w os4 n4) w.heap.size (.slice Ad q cd) (T 0)) := by
        have h1 := HH.out
        have h2 : T 0 = O := by rw [HT.out 0]; simp [pick]
        rw [e4] at h1
        rw [h2]
        exact h1
      rw [e4]
      clear e4 HH zL zq zR zM zLq
      go_loopw [15, 16, 75] (fun v lf i wr => ∃ (k r : Nat) (os : Array Obj) (n : Nat), k ≤ xs.length ∧ i = .int .i64 k ∧ lf = .int .i64 r ∧ r = Rm - (pick (freshOn d) xs k).length ∧ wr = plus w os n ∧ HalfOwn wr w.heap.size v (T k))
        (fun _ _ i _ => xs.length - (intOf i).toNat)
      case atStart => exact ⟨0, Rm, _, _, Nat.zero_le _, rfl, rfl, by simp [pick], rfl, HH2.out⟩
      case round =>
        clear HH2
        obtain ⟨k, r, os, n, hk, rfl, rfl, hr, rfl, hown⟩ := hrel
        have hpl := pick_le (freshOn d) xs k
        have hTl := HLn.out k
        by_cases hlt : k < xs.length
        · obtain ⟨b, off, rfl, hb, hcell⟩ := HA.out (by omega)
          have hxk : xs[k]? = some xs[k] := List.getElem?_eq_getElem hlt
          have hc0 := hcell k hlt
          clear hcell
          have hgk := (HG.out k hlt).2
          generalize xs[k] = x at hc0 hxk hgk
          have hcases : ((0 < r ∧ (x.ti == 0) = true ∧ x.bu < d) ∧ freshOn d x = true) ∨ (0 < r ∧ ((x.ti == 0) = true ∧ ¬ x.bu < d) ∧ freshOn d x = false) ∨ (0 < r ∧ (x.ti == 0) = false ∧ freshOn d x = false) ∨ ¬ 0 < r := by
            unfold freshOn
            simp only [decide_eq_true_eq, decide_eq_false_iff_not, beq_iff_eq, beq_eq_false_iff_ne, ne_eq]
            omega
          clear hgk
          obtain ⟨c0, c1, c2, c3, c4, c5, c6, c7, c8⟩ := hc0
          have HX := hide hxk
          have hr5 : r ≤ 5000 := by omega
          have HR := hide hr
          clear hxk hr
          rcases hcases with ⟨⟨q1, q2, q3⟩, hp⟩ | ⟨q1, ⟨q2, q3⟩, hp⟩ | ⟨q1, q2, hp⟩ | q1
          · have q1z : (0 : Int) < (r : Int) := by omega
            have HP := hide hp
            clear hp
            go_wp2_with ((at_builtin; refine wpList_append_half rfl (.tmp 93) (.tmp 95) rfl rfl w.heap.size _ (T k) _ _ rfl (hown.alloc _) rfl (by simp [plus_size]) (by omega) (by simp [plus_size]; omega) ?_; intro v' w1 hown1 hb1; obtain ⟨os3, n3, rfl⟩ := over_plus (L := w) rfl (by repeat (first | exact Below.refl _ _ | refine bl_plus ?_ | refine bl_alloc ?_ _ | refine bl_drew ?_)) hb1; clear hb1))
            go_roundw
            case rel => exact ⟨k + 1, r - 1, _, _, hlt, by go_num, by go_num, by rw [pick_yes HX.out HP.out]; simp; have := HR.out; omega, rfl, by rw [HY.out k x HX.out HP.out (by have := HR.out; omega)]; exact hown1⟩
            case measure => simp [intOf]; omega
          · have q1z : (0 : Int) < (r : Int) := by omega
            have HP := hide hp
            clear hp
            go_wp2
            go_roundw
            case rel => exact ⟨k + 1, r, _, _, hlt, by go_num, rfl, by rw [pick_no HX.out HP.out]; exact HR.out, by rw [plus_alloc], by rw [HN.out k x HX.out HP.out]; exact hown.alloc _⟩
            case measure => simp [intOf]; omega
          · have q1z : (0 : Int) < (r : Int) := by omega
            have HP := hide hp
            clear hp
            go_wp2
            go_roundw
            case rel => exact ⟨k + 1, r, _, _, hlt, by go_num, rfl, by rw [pick_no HX.out HP.out]; exact HR.out, by rw [plus_alloc], by rw [HN.out k x HX.out HP.out]; exact hown.alloc _⟩
            case measure => simp [intOf]; omega
          · have q1z : ¬ (0 : Int) < (r : Int) := by omega
            go_wp2
            go_roundw
            case rel =>
              refine ⟨k + 1, r, _, _, hlt, by go_num, rfl, ?_, by rw [plus_alloc], by rw [HF.out k x HX.out (by have := HR.out; omega)]; exact hown.alloc _⟩
              have h1 := HR.out
              cases hp : freshOn d x with
              | true => rw [pick_yes HX.out hp]; simp; omega
              | false => rw [pick_no HX.out hp]; exact h1
            case measure => simp [intOf]; omega
        · have hkl : k = xs.length := by omega
          subst hkl
          obtain ⟨B, c', rfl, hnc⟩ := hown.form
          have HW := hide hown
          clear hown
          go_wp2
          go_returns
          exact ⟨_, rfl, HW.out, by repeat (first | exact Below.refl _ _ | refine bl_plus ?_ | refine bl_alloc ?_ _ | refine bl_drew ?_)⟩

end Go.Proofs.Ytokghdcfbbogdaa
/-
  WALKS: Due, TodayOf and DueOf.
-/
namespace Go.Proofs.Ytokghdcfbbogdaa
open Go.RowKit

set_option maxHeartbeats 1600000 in
set_option maxRecDepth 100000 in
theorem todayOf_bad (A B : Option Addr) (c c2 : Nat) (xs : List St) (rs : List Rv) (d bn ba : Int) (w : World) (hA : StsAt w A xs) (h : statesErr xs ≠ 0) :
    Calls Try.prog 28 #[.slice A xs.length c, .slice B rs.length c2, .int .i64 d, .agg #[.int .i64 bn, .int .i64 ba]] w (IntsOut (todayR xs rs d bn ba) w) := by
  have hR : todayR xs rs d bn ba = ([], statesErr xs) := by
    have : onErr xs d = statesErr xs := by unfold onErr; rw [if_neg h]
    unfold todayR; rw [this, if_neg h]
  rw [hR]
  have hck := fun w h => statesFault_any A c xs w h
  generalize statesErr xs = r at hck h ⊢
  have hr : (r == 0) = false := by simp [h]
  have H1 := hide hck
  have HA := hide hA
  clear hck h hA hR
  go_enter Try.func28, Try.ntmps28
  go_wp2_with (go_at_call 49; refine (H1.out _ (HA.out.alloc _)).mono ?_; rintro e w' ⟨rfl, hb⟩; obtain ⟨os1, n1, rfl⟩ := below_plus hb; clear hb)
  go_returns
  exact intsOut_err (by repeat (first | exact Below.refl _ _ | refine bl_plus ?_ | refine bl_alloc ?_ _ | refine bl_drew ?_))

set_option maxHeartbeats 1600000 in
set_option maxRecDepth 100000 in
theorem todayOf_day (A B : Option Addr) (c c2 : Nat) (xs : List St) (rs : List Rv) (d bn ba : Int) (w : World) (hA : StsAt w A xs) (h : statesErr xs = 0) (hd : d < 0 ∨ 100000 < d) :
    Calls Try.prog 28 #[.slice A xs.length c, .slice B rs.length c2, .int .i64 d, .agg #[.int .i64 bn, .int .i64 ba]] w (IntsOut (todayR xs rs d bn ba) w) := by
  have hR : todayR xs rs d bn ba = ([], 2) := by
    have : onErr xs d = 2 := by unfold onErr; rw [if_pos h, if_pos hd]
    unfold todayR; rw [this, if_neg (by decide)]
  rw [hR]
  have hck := fun w h => statesFault_any A c xs w h
  rw [h] at hck
  have hday := fun w => isDay_no d w hd
  have HD := hide hday
  have H1 := hide hck
  have HA := hide hA
  clear hck h hA hR hday hd
  go_enter Try.func28, Try.ntmps28
  go_wp2_with (first | (go_at_call 49; refine (H1.out _ (HA.out.alloc _)).mono ?_; rintro e w' ⟨rfl, hb⟩; obtain ⟨os1, n1, rfl⟩ := below_plus hb; clear hb) | (go_at_call 59; refine (HD.out _).mono ?_; rintro e w' ⟨rfl, rfl⟩))
  go_returns
  exact intsOut_err (by repeat (first | exact Below.refl _ _ | refine bl_plus ?_ | refine bl_alloc ?_ _ | refine bl_drew ?_))

set_option maxHeartbeats 1600000 in
set_option maxRecDepth 100000 in
theorem todayOf_bound (A B : Option Addr) (c c2 : Nat) (xs : List St) (rs : List Rv) (d bn ba : Int) (w : World) (hA : StsAt w A xs) (h : statesErr xs = 0) (hd : 0 ≤ d ∧ d ≤ 100000) (hbd : ¬ bndOk bn ba) :
    Calls Try.prog 28 #[.slice A xs.length c, .slice B rs.length c2, .int .i64 d, .agg #[.int .i64 bn, .int .i64 ba]] w (IntsOut (todayR xs rs d bn ba) w) := by
  have hR : todayR xs rs d bn ba = ([], 2) := by unfold todayR; rw [if_pos (onErr_ok h hd), if_neg hbd]
  rw [hR]
  have hck := fun w h => statesFault_any A c xs w h
  rw [h] at hck
  have hday := fun w => isDay_yes d w hd.1 hd.2
  have hbf := fun w => boundsFault_any bn ba w
  rw [decide_eq_false hbd] at hbf
  have HD := hide hday
  have H1 := hide hck
  have H2 := hide hbf
  have HA := hide hA
  clear hck h hA hR hday hd hbf hbd
  go_enter Try.func28, Try.ntmps28
  go_wp2_with (first | (go_at_call 49; refine (H1.out _ (HA.out.alloc _)).mono ?_; rintro e w' ⟨rfl, hb⟩; obtain ⟨os1, n1, rfl⟩ := below_plus hb; clear hb) | (go_at_call 59; refine (HD.out _).mono ?_; rintro e w' ⟨rfl, rfl⟩) | (go_at_call 70; refine (H2.out _).mono ?_; rintro e w' ⟨rfl, hb⟩; obtain ⟨os2, n2, rfl⟩ := below_plus hb; clear hb))
  go_returns
  exact intsOut_err (by repeat (first | exact Below.refl _ _ | refine bl_plus ?_ | refine bl_alloc ?_ _ | refine bl_drew ?_))

set_option maxHeartbeats 1600000 in
set_option maxRecDepth 100000 in
theorem todayOf_long (A B : Option Addr) (c c2 : Nat) (xs : List St) (rs : List Rv) (d bn ba : Int) (w : World) (hA : StsAt w A xs) (h : statesErr xs = 0) (hd : 0 ≤ d ∧ d ≤ 100000) (hbd : bndOk bn ba) (hrl : 20000 < rs.length) :
    Calls Try.prog 28 #[.slice A xs.length c, .slice B rs.length c2, .int .i64 d, .agg #[.int .i64 bn, .int .i64 ba]] w (IntsOut (todayR xs rs d bn ba) w) := by
  have hR : todayR xs rs d bn ba = ([], 4) := by unfold todayR; rw [if_pos (onErr_ok h hd), if_pos hbd, if_pos hrl]
  rw [hR]
  have hck := fun w h => statesFault_any A c xs w h
  rw [h] at hck
  have hday := fun w => isDay_yes d w hd.1 hd.2
  have hbf := fun w => boundsFault_any bn ba w
  rw [decide_eq_true hbd] at hbf
  have HD := hide hday
  have H1 := hide hck
  have H2 := hide hbf
  have HA := hide hA
  clear hck h hA hR hday hd hbf hbd
  have hrl' : (20000 : Int) < (rs.length : Int) := by omega
  go_enter Try.func28, Try.ntmps28
  go_wp2_with (first | (go_at_call 49; refine (H1.out _ (HA.out.alloc _)).mono ?_; rintro e w' ⟨rfl, hb⟩; obtain ⟨os1, n1, rfl⟩ := below_plus hb; clear hb) | (go_at_call 59; refine (HD.out _).mono ?_; rintro e w' ⟨rfl, rfl⟩) | (go_at_call 70; refine (H2.out _).mono ?_; rintro e w' ⟨rfl, hb⟩; obtain ⟨os2, n2, rfl⟩ := below_plus hb; clear hb))
  go_returns
  exact intsOut_err (by repeat (first | exact Below.refl _ _ | refine bl_plus ?_ | refine bl_alloc ?_ _ | refine bl_drew ?_))

set_option maxHeartbeats 1600000 in
set_option maxRecDepth 100000 in
theorem todayOf_ok (A B : Option Addr) (c c2 : Nat) (xs : List St) (rs : List Rv) (d bn ba : Int) (w : World) (hA : StsAt w A xs) (hB : RvsAt w B rs) (h : statesErr xs = 0) (hd : 0 ≤ d ∧ d ≤ 100000) (hbd : bndOk bn ba) (hrl : rs.length ≤ 20000) :
    Calls Try.prog 28 #[.slice A xs.length c, .slice B rs.length c2, .int .i64 d, .agg #[.int .i64 bn, .int .i64 ba]] w (IntsOut (todayR xs rs d bn ba) w) := by
  have hR : todayR xs rs d bn ba = (todayList xs d (cntFirst rs d rs.length) (cntAll rs d rs.length) bn ba, 0) := by unfold todayR; rw [if_pos (onErr_ok h hd), if_pos hbd, if_neg (by omega)]
  rw [hR]
  have htd := fun w hA hB => rtoday_ok A B c c2 xs rs d bn ba w hA hB h hrl hbd.1 hbd.2
  have hck := fun w h => statesFault_any A c xs w h
  rw [h] at hck
  have hday := fun w => isDay_yes d w hd.1 hd.2
  have hbf := fun w => boundsFault_any bn ba w
  rw [decide_eq_true hbd] at hbf
  have HD := hide hday
  have H1 := hide hck
  have H2 := hide hbf
  have HA := hide hA
  have HB := hide hB
  have HT := hide htd
  clear hck h hA hR hday hd hbf hbd hB htd
  have hrl' : ¬ (20000 : Int) < (rs.length : Int) := by omega
  go_enter Try.func28, Try.ntmps28
  go_wp2_with (first | (go_at_call 49; refine (H1.out _ (HA.out.alloc _)).mono ?_; rintro e w' ⟨rfl, hb⟩; obtain ⟨os1, n1, rfl⟩ := below_plus hb; clear hb) | (go_at_call 59; refine (HD.out _).mono ?_; rintro e w' ⟨rfl, rfl⟩) | (go_at_call 70; refine (H2.out _).mono ?_; rintro e w' ⟨rfl, hb⟩; obtain ⟨os2, n2, rfl⟩ := below_plus hb; clear hb) | (go_at_call 71; refine (HT.out _ (((HA.out.alloc _).plus _ _).plus _ _) (((HB.out.alloc _).plus _ _).plus _ _)).mono ?_; rintro e w' ⟨v, rfl, hh, hb⟩; obtain ⟨os3, n3, rfl⟩ := below_plus hb; clear hb; have HH := hide hh; clear hh))
  go_returns
  exact intsOut_half (HH.out.lower (by simp only [plus_size, World.size_alloc]; omega)) (by repeat (first | exact Below.refl _ _ | refine bl_plus ?_ | refine bl_alloc ?_ _ | refine bl_drew ?_))

theorem todayOf_any (A B : Option Addr) (c c2 : Nat) (xs : List St) (rs : List Rv) (d bn ba : Int) (w : World) (hA : StsAt w A xs) (hB : RvsAt w B rs) :
    Calls Try.prog 28 #[.slice A xs.length c, .slice B rs.length c2, .int .i64 d, .agg #[.int .i64 bn, .int .i64 ba]] w (IntsOut (todayR xs rs d bn ba) w) := by
  by_cases h : statesErr xs = 0
  · by_cases hd : d < 0 ∨ 100000 < d
    · exact todayOf_day A B c c2 xs rs d bn ba w hA h hd
    · by_cases hbd : bndOk bn ba
      · by_cases hrl : 20000 < rs.length
        · exact todayOf_long A B c c2 xs rs d bn ba w hA h (by omega) hbd hrl
        · exact todayOf_ok A B c c2 xs rs d bn ba w hA hB h (by omega) hbd (by omega)
      · exact todayOf_bound A B c c2 xs rs d bn ba w hA h (by omega) hbd
  · exact todayOf_bad A B c c2 xs rs d bn ba w hA h

def dueR (xs : List St) (d : Int) : List Int × Int := if onErr xs d = 0 then (dueList xs d, 0) else ([], onErr xs d)

set_option maxHeartbeats 1600000 in
set_option maxRecDepth 100000 in
theorem dueF_any (A : Option Addr) (c : Nat) (xs : List St) (d : Int) (w : World) (hA : StsAt w A xs) :
    Calls Try.prog 25 #[.slice A xs.length c, .int .i64 d] w (IntsOut (dueR xs d) w) := by
  have hck := fun w h => checkOn_any A c xs d w h
  by_cases h : onErr xs d = 0
  · have hR : dueR xs d = (dueList xs d, 0) := by unfold dueR; rw [if_pos h]
    rw [hR]
    have hdu := fun w hA => due_any A c xs d w hA (onErr_zero h).1
    rw [h] at hck
    have H1 := hide hck
    have HU := hide hdu
    have HA := hide hA
    clear hck hA hR h hdu
    go_enter Try.func25, Try.ntmps25
    go_wp2_with (first | (go_at_call 65; refine (H1.out _ HA.out).mono ?_; rintro e w' ⟨rfl, hb⟩; obtain ⟨os1, n1, rfl⟩ := below_plus hb; clear hb) | (go_at_call 66; refine (HU.out _ (HA.out.plus _ _)).mono ?_; rintro e w' ⟨v, rfl, hh, hb⟩; obtain ⟨os3, n3, rfl⟩ := below_plus hb; clear hb; have HH := hide hh; clear hh))
    go_returns
    exact intsOut_half (HH.out.lower (by simp only [plus_size]; omega)) (by repeat (first | exact Below.refl _ _ | refine bl_plus ?_ | refine bl_alloc ?_ _ | refine bl_drew ?_))
  · have hR : dueR xs d = ([], onErr xs d) := by unfold dueR; rw [if_neg h]
    rw [hR]
    generalize onErr xs d = r at hck h ⊢
    have hr : (r == 0) = false := by simp [h]
    have H1 := hide hck
    have HA := hide hA
    clear hck h hA hR
    go_enter Try.func25, Try.ntmps25
    go_wp2_with (go_at_call 65; refine (H1.out _ HA.out).mono ?_; rintro e w' ⟨rfl, hb⟩; obtain ⟨os1, n1, rfl⟩ := below_plus hb; clear hb)
    go_returns
    exact intsOut_err (by repeat (first | exact Below.refl _ _ | refine bl_plus ?_ | refine bl_alloc ?_ _ | refine bl_drew ?_))

set_option maxHeartbeats 1600000 in
set_option maxRecDepth 100000 in
theorem dueOf_any (A : Option Addr) (c : Nat) (xs : List St) (d : Int) (w : World) (hA : StsAt w A xs) :
    Calls Try.prog 26 #[.slice A xs.length c, .int .i64 d] w (IntsOut (dueR xs d) w) := by
  have hck := fun w h => statesFault_any A c xs w h
  by_cases h : statesErr xs = 0
  · by_cases hd : d < 0 ∨ 100000 < d
    · have hR : dueR xs d = ([], 2) := by
        have : onErr xs d = 2 := by unfold onErr; rw [if_pos h, if_pos hd]
        unfold dueR; rw [this, if_neg (by decide)]
      rw [hR]
      rw [h] at hck
      have hday := fun w => isDay_no d w hd
      have HD := hide hday
      have H1 := hide hck
      have HA := hide hA
      clear hck h hA hR hday hd
      go_enter Try.func26, Try.ntmps26
      go_wp2_with (first | (go_at_call 49; refine (H1.out _ HA.out).mono ?_; rintro e w' ⟨rfl, hb⟩; obtain ⟨os1, n1, rfl⟩ := below_plus hb; clear hb) | (go_at_call 59; refine (HD.out _).mono ?_; rintro e w' ⟨rfl, rfl⟩))
      go_returns
      exact intsOut_err (by repeat (first | exact Below.refl _ _ | refine bl_plus ?_ | refine bl_alloc ?_ _ | refine bl_drew ?_))
    · have hR : dueR xs d = (dueList xs d, 0) := by unfold dueR; rw [if_pos (onErr_ok h (by omega))]
      rw [hR]
      have hdu := fun w hA => dueAt_any A c xs d w hA h
      rw [h] at hck
      have hday := fun w => isDay_yes d w (by omega) (by omega)
      have HD := hide hday
      have H1 := hide hck
      have HU := hide hdu
      have HA := hide hA
      clear hck hA hR h hdu hday hd
      go_enter Try.func26, Try.ntmps26
      go_wp2_with (first | (go_at_call 49; refine (H1.out _ HA.out).mono ?_; rintro e w' ⟨rfl, hb⟩; obtain ⟨os1, n1, rfl⟩ := below_plus hb; clear hb) | (go_at_call 59; refine (HD.out _).mono ?_; rintro e w' ⟨rfl, rfl⟩) | (go_at_call 67; refine (HU.out _ (HA.out.plus _ _)).mono ?_; rintro e w' ⟨v, rfl, hh, hb⟩; obtain ⟨os3, n3, rfl⟩ := below_plus hb; clear hb; have HH := hide hh; clear hh))
      go_returns
      exact intsOut_half (HH.out.lower (by simp only [plus_size]; omega)) (by repeat (first | exact Below.refl _ _ | refine bl_plus ?_ | refine bl_alloc ?_ _ | refine bl_drew ?_))
  · have hR : dueR xs d = ([], statesErr xs) := by
      have : onErr xs d = statesErr xs := by unfold onErr; rw [if_neg h]
      unfold dueR; rw [this, if_neg h]
    rw [hR]
    generalize statesErr xs = r at hck h ⊢
    have hr : (r == 0) = false := by simp [h]
    have H1 := hide hck
    have HA := hide hA
    clear hck h hA hR
    go_enter Try.func26, Try.ntmps26
    go_wp2_with (go_at_call 49; refine (H1.out _ HA.out).mono ?_; rintro e w' ⟨rfl, hb⟩; obtain ⟨os1, n1, rfl⟩ := below_plus hb; clear hb)
    go_returns
    exact intsOut_err (by repeat (first | exact Below.refl _ _ | refine bl_plus ?_ | refine bl_alloc ?_ _ | refine bl_drew ?_))

end Go.Proofs.Ytokghdcfbbogdaa
