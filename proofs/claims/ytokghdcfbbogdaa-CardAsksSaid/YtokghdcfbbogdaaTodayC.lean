/-
  WALKS: Today.
-/
import Derived.Test.YtokghdcfbbogdaaTodayB
import Derived.Test.YtokghdcfbbogdaaWalkJ
namespace Go.Proofs.Ytokghdcfbbogdaa
open Go.RowKit

def todayR (xs : List St) (rs : List Rv) (d bn ba : Int) : List Int × Int :=
  if onErr xs d = 0 then (if bndOk bn ba then (if 20000 < rs.length then ([], 4) else (todayList xs d (cntFirst rs d rs.length) (cntAll rs d rs.length) bn ba, 0)) else ([], 2)) else ([], onErr xs d)
theorem intsOut_half {w w' : World} {v : Value} {ns : List Int} {d : Int} (h : HalfOwn w' w.heap.size v ns) (hb : Below w.heap.size w w') : IntsOut (ns, d) w (.returned (.tuple #[v, .int .i64 d])) w' := by
  obtain ⟨A, c, rfl, _⟩ := h.form
  obtain ⟨_, h2, _, h4⟩ := h.ints
  exact ⟨A, c, rfl, h2, h4, hb⟩
theorem zero_bool (w : World) : (zeroValue 4).run Try.prog w = .ok (.bool false) w := by
  simp [go_sem]
attribute [local go_sem high] run_makeMap

/-- The world of a round: a map, what came since, a block of one's own, what came since. -/
def mapWorld (W0 : World) (kv : KV) (os : Array Obj) (n : Nat) (C : Obj) (os3 : Array Obj) (n3 : Nat) : World := plus ((plus (W0.alloc (.map (ents kv) kv.length)) os n).alloc C) os3 n3
theorem mapWorld_heap (W0 : World) (kv : KV) (os : Array Obj) (n : Nat) (C : Obj) (os3 : Array Obj) (n3 : Nat) : (mapWorld W0 kv os n C os3 n3).heap[W0.heap.size]? = some (.map (ents kv) kv.length) := by
  unfold mapWorld
  rw [plus_heap (by rw [World.size_alloc, plus_size, World.size_alloc]; omega), Below.heap_alloc _ _ _ (by rw [plus_size, World.size_alloc]; omega), plus_heap (by rw [World.size_alloc]; omega)]
  exact heap_alloc_new W0 _
theorem mapWorld_set (W0 : World) (kv kv' : KV) (os : Array Obj) (n : Nat) (C : Obj) (os3 : Array Obj) (n3 : Nat) : setMap (mapWorld W0 kv os n C os3 n3) W0.heap.size (.map (ents kv') kv'.length) = mapWorld W0 kv' os n C os3 n3 := by
  unfold mapWorld
  rw [plus_setMap (by rw [World.size_alloc, plus_size, World.size_alloc]; omega), alloc_setMap_old (by rw [plus_size, World.size_alloc]; omega), plus_setMap (by rw [World.size_alloc]; omega), alloc_setMap_new]
theorem lookup_round {t kt et : TypeId} (K : PairKey kt) (ht : Try.prog.underlying t = some (.map kt et)) {z : Value} (hz : ∀ w, (zeroValue et).run Try.prog w = .ok z w) (a b : Int) (W0 : World) (kv : KV) (os : Array Obj) (n : Nat) (C : Obj) (os3 : Array Obj) (n3 : Nat) :
    (Instr.lookup t (.map (some W0.heap.size)) (nameVal a b) false).run Try.prog (plus ((plus (W0.alloc (.map (ents kv) kv.length)) os n).alloc C) os3 n3) = .ok ((kvFind (a, b) kv).getD z) (plus ((plus (W0.alloc (.map (ents kv) kv.length)) os n).alloc C) os3 n3) :=
  lookup_ents K ht hz a b _ _ kv (mapWorld_heap W0 kv os n C os3 n3)
theorem update_round {t kt et : TypeId} (K : PairKey kt) (ht : Try.prog.underlying t = some (.map kt et)) (a b : Int) (v : Value) (W0 : World) (kv : KV) (os : Array Obj) (n : Nat) (C : Obj) (os3 : Array Obj) (n3 : Nat) :
    (Instr.mapUpdate t (.map (some W0.heap.size)) (nameVal a b) v).run Try.prog (plus ((plus (W0.alloc (.map (ents kv) kv.length)) os n).alloc C) os3 n3) = .ok () (plus ((plus (W0.alloc (.map (ents (kvPut (a, b) v kv)) (kvPut (a, b) v kv).length)) os n).alloc C) os3 n3) :=
  (update_ents K ht a b v _ kv _ (mapWorld_heap W0 kv os n C os3 n3)).trans (by rw [mapWorld_set]; rfl)

set_option maxHeartbeats 3200000 in
set_option maxRecDepth 100000 in
theorem todayF_ok (A B : Option Addr) (c c2 : Nat) (xs : List St) (rs : List Rv) (d bn ba : Int) (w : World) (hA : StsAt w A xs) (hB : RvsAt w B rs) (h : onErr xs d = 0) (hbd : bndOk bn ba) (hrl : rs.length ≤ 20000) :
    Calls Try.prog 27 #[.slice A xs.length c, .slice B rs.length c2, .int .i64 d, .agg #[.int .i64 bn, .int .i64 ba]] w (IntsOut (todayR xs rs d bn ba) w) := by
  have hR : todayR xs rs d bn ba = (todayList xs d (cntFirst rs d rs.length) (cntAll rs d rs.length) bn ba, 0) := by unfold todayR; rw [if_pos h, if_pos hbd, if_neg (by omega)]
  rw [hR]
  have hck := fun w h => checkOn_any A c xs d w h
  rw [h] at hck
  have hcb := fun w => checkBounds_any bn ba w
  rw [if_pos hbd] at hcb
  have hst := (onErr_zero h).1
  have hf1 := cntFirst_le rs d rs.length
  have hf2 := cntAll_le rs d rs.length
  have htd := fun w hA => today_ok A c xs d (cntFirst rs d rs.length) (cntAll rs d rs.length) bn ba w hA hst (by omega) (by omega) hbd.1 hbd.2
  have H1 := hide hck
  have H2 := hide hcb
  have H3 := hide htd
  have HA := hide hA
  have HB := hide hB
  clear hck hcb htd hA hB hR h hst hbd hf1 hf2
  have hrl' : ¬ (20000 : Int) < (rs.length : Int) := by omega
  go_enter Try.func27, Try.ntmps27
  go_upto_region 9 with (first | (go_at_call 65; refine (H1.out _ (HA.out.alloc _)).mono ?_; rintro e w' ⟨rfl, hb⟩; obtain ⟨os1, n1, rfl⟩ := below_plus hb; clear hb) | (go_at_call 68; refine (H2.out _).mono ?_; rintro e w' ⟨rfl, hb⟩; obtain ⟨os2, n2, rfl⟩ := below_plus hb; clear hb))
  have hbox : (plus (plus (w.alloc (.cells #[.int .i64 bn, .int .i64 ba] 43)) os1 n1) os2 n2).cell? ⟨w.heap.size, 0, none⟩ = some (.int .i64 bn) ∧ (plus (plus (w.alloc (.cells #[.int .i64 bn, .int .i64 ba] 43)) os1 n1) os2 n2).cell? ⟨w.heap.size, 1, none⟩ = some (.int .i64 ba) := by
    rw [plus_cell (by rw [plus_size, World.size_alloc]; omega), plus_cell (by rw [World.size_alloc]; omega), plus_cell (by rw [plus_size, World.size_alloc]; omega), plus_cell (by rw [World.size_alloc]; omega)]
    simp
  have hW : Below w.heap.size w (plus (plus (w.alloc (.cells #[.int .i64 bn, .int .i64 ba] 43)) os1 n1) os2 n2) := by repeat (first | exact Below.refl _ _ | refine bl_plus ?_ | refine bl_alloc ?_ _ | refine bl_drew ?_)
  have hlt : w.heap.size < (plus (plus (w.alloc (.cells #[.int .i64 bn, .int .i64 ba] 43)) os1 n1) os2 n2).heap.size := by rw [plus_size, plus_size, World.size_alloc]; omega
  generalize plus (plus (w.alloc (.cells #[.int .i64 bn, .int .i64 ba] 43)) os1 n1) os2 n2 = W0 at hbox hW hlt ⊢
  obtain ⟨hbox0, hbox1⟩ := hbox
  have HW := hide hW
  clear hW
  go_wp2
  go_loopw [13, 14, 34] (fun f1 a1 i wr => ∃ (k : Nat) (os : Array Obj) (n : Nat), k ≤ rs.length ∧ i = .int .i64 k ∧ f1 = .int .i64 (cntFirst rs d k) ∧ a1 = .int .i64 (cntAll rs d k) ∧ wr = plus (W0.alloc (.map (ents (seenKV rs k)) (seenKV rs k).length)) os n)
    (fun _ _ i _ => rs.length - (intOf i).toNat)
  case atStart => exact ⟨0, #[], _, Nat.zero_le _, rfl, rfl, rfl, plus_nil.symm⟩
  case round =>
    obtain ⟨k, os, n, hk, rfl, rfl, rfl, rfl⟩ := hrel
    have hf1 := cntFirst_le rs d k
    have hf2 := cntAll_le rs d k
    by_cases hlt2 : k < rs.length
    · obtain ⟨b, off, rfl, hb, hcell⟩ := HB.out (by omega)
      have hb0 : b < W0.heap.size := by have := HW.out.size; omega
      have hrk : rs[k]? = some rs[k] := List.getElem?_eq_getElem hlt2
      obtain ⟨c0, c1, c2, c3⟩ := hcell k hlt2
      clear hcell
      generalize rs[k] = r at c0 c1 c2 c3 hrk
      have hc0 : W0.cell? ⟨b, off + k * 4, none⟩ = some (.int .i64 r.bl) := (HW.out.cell (p := ⟨b, _, none⟩) hb).trans c0
      have hc1 : W0.cell? ⟨b, off + k * 4 + 1, none⟩ = some (.int .i64 r.no) := (HW.out.cell (p := ⟨b, _, none⟩) hb).trans c1
      have hc2 : W0.cell? ⟨b, off + k * 4 + 2, none⟩ = some (.int .i64 r.gr) := (HW.out.cell (p := ⟨b, _, none⟩) hb).trans c2
      have hc3 : W0.cell? ⟨b, off + k * 4 + 3, none⟩ = some (.int .i64 r.da) := (HW.out.cell (p := ⟨b, _, none⟩) hb).trans c3
      clear c0 c1 c2 c3
      have hnm := fun w => reviewName_any r.bl r.no r.gr r.da w
      try simp only [nameVal] at hnm
      have HNM := hide hnm
      have HX := hide hrk
      have hup := fun os3 n3 => update_round pair_name Try.underlying89 r.bl r.no (.bool true) W0 (seenKV rs k) os n (.cells #[.int .i64 r.bl, .int .i64 r.no, .int .i64 r.gr, .int .i64 r.da] 65) os3 n3
      have hlk := fun os3 n3 => lookup_round pair_name Try.underlying89 zero_bool r.bl r.no W0 (seenKV rs k) os n (.cells #[.int .i64 r.bl, .int .i64 r.no, .int .i64 r.gr, .int .i64 r.da] 65) os3 n3
      rw [kvSet_find (seenKV_set rs k)] at hlk
      rw [← seenKV_succ hrk] at hup
      simp only [nameVal] at hup hlk
      clear hnm hrk
      by_cases hd : r.da = d
      · have HD := hide hd
        have hdb : (r.da == d) = true := by simp [hd]
        clear hd
        cases hs : kvHas (r.bl, r.no) (seenKV rs k) with
        | true =>
          rw [hs] at hlk
          have HS := hide hs
          clear hs
          go_wp2_with (go_at_call 53; refine (HNM.out _).mono ?_; rintro e w' ⟨rfl, hb⟩; obtain ⟨os3, n3, rfl⟩ := below_plus hb; clear hb; try rw [plus_plus])
          go_roundw
          case rel => exact ⟨k + 1, _, _, hlt2, by go_num, by rw [cntFirst_no HX.out (by rw [HS.out]; simp)], by rw [cntAll_yes HX.out HD.out]; go_num, by rw [plus_alloc, plus_plus]⟩
          case measure => simp [intOf]; omega
        | false =>
          rw [hs] at hlk
          have HS := hide hs
          clear hs
          go_wp2_with (go_at_call 53; refine (HNM.out _).mono ?_; rintro e w' ⟨rfl, hb⟩; obtain ⟨os3, n3, rfl⟩ := below_plus hb; clear hb; try rw [plus_plus])
          go_roundw
          case rel => exact ⟨k + 1, _, _, hlt2, by go_num, by rw [cntFirst_yes HX.out HD.out HS.out]; go_num, by rw [cntAll_yes HX.out HD.out]; go_num, by rw [plus_alloc, plus_plus]⟩
          case measure => simp [intOf]; omega
      · have HD := hide hd
        have hdb : (r.da == d) = false := by simp [hd]
        clear hd hlk
        go_wp2_with (go_at_call 53; refine (HNM.out _).mono ?_; rintro e w' ⟨rfl, hb⟩; obtain ⟨os3, n3, rfl⟩ := below_plus hb; clear hb)
        go_roundw
        case rel => exact ⟨k + 1, _, _, hlt2, by go_num, by rw [cntFirst_no HX.out (fun h => HD.out h.1)], by rw [cntAll_no HX.out HD.out], by rw [plus_alloc, plus_plus]⟩
        case measure => simp [intOf]; omega
    · have hkl : k = rs.length := by omega
      subst hkl
      go_wp2_with (go_at_call 69; refine (H3.out _ (HA.out.below (by repeat (first | exact HW.out | exact Below.refl _ _ | refine bl_plus ?_ | refine bl_alloc ?_ _ | refine bl_drew ?_)))).mono ?_; rintro e w' ⟨v, rfl, hh, hb⟩; obtain ⟨os3, n3, rfl⟩ := below_plus hb; clear hb; have HH := hide hh; clear hh)
      go_returns
      exact intsOut_half (HH.out.lower (by rw [plus_size, World.size_alloc]; omega)) (by repeat (first | exact HW.out | exact Below.refl _ _ | refine bl_plus ?_ | refine bl_alloc ?_ _ | refine bl_drew ?_))

set_option maxHeartbeats 1600000 in
set_option maxRecDepth 100000 in
theorem todayF_bad (A B : Option Addr) (c c2 : Nat) (xs : List St) (rs : List Rv) (d bn ba : Int) (w : World) (hA : StsAt w A xs) (h : onErr xs d ≠ 0) :
    Calls Try.prog 27 #[.slice A xs.length c, .slice B rs.length c2, .int .i64 d, .agg #[.int .i64 bn, .int .i64 ba]] w (IntsOut (todayR xs rs d bn ba) w) := by
  have hR : todayR xs rs d bn ba = ([], onErr xs d) := by unfold todayR; rw [if_neg h]
  rw [hR]
  have hck := fun w h => checkOn_any A c xs d w h
  generalize onErr xs d = r at hck h ⊢
  have hr : (r == 0) = false := by simp [h]
  have H1 := hide hck
  have HA := hide hA
  clear hck h hA hR
  go_enter Try.func27, Try.ntmps27
  go_wp2_with (go_at_call 65; refine (H1.out _ (HA.out.alloc _)).mono ?_; rintro e w' ⟨rfl, hb⟩; obtain ⟨os1, n1, rfl⟩ := below_plus hb; clear hb)
  go_returns
  exact intsOut_err (by repeat (first | exact Below.refl _ _ | refine bl_plus ?_ | refine bl_alloc ?_ _ | refine bl_drew ?_))

set_option maxHeartbeats 1600000 in
set_option maxRecDepth 100000 in
theorem todayF_bound (A B : Option Addr) (c c2 : Nat) (xs : List St) (rs : List Rv) (d bn ba : Int) (w : World) (hA : StsAt w A xs) (h : onErr xs d = 0) (hbd : ¬ bndOk bn ba) :
    Calls Try.prog 27 #[.slice A xs.length c, .slice B rs.length c2, .int .i64 d, .agg #[.int .i64 bn, .int .i64 ba]] w (IntsOut (todayR xs rs d bn ba) w) := by
  have hR : todayR xs rs d bn ba = ([], 2) := by unfold todayR; rw [if_pos h, if_neg hbd]
  rw [hR]
  have hck := fun w h => checkOn_any A c xs d w h
  rw [h] at hck
  have hcb := fun w => checkBounds_any bn ba w
  rw [if_neg hbd] at hcb
  have H1 := hide hck
  have H2 := hide hcb
  have HA := hide hA
  clear hck h hA hR hcb hbd
  go_enter Try.func27, Try.ntmps27
  go_wp2_with (first | (go_at_call 65; refine (H1.out _ (HA.out.alloc _)).mono ?_; rintro e w' ⟨rfl, hb⟩; obtain ⟨os1, n1, rfl⟩ := below_plus hb; clear hb) | (go_at_call 68; refine (H2.out _).mono ?_; rintro e w' ⟨rfl, hb⟩; obtain ⟨os2, n2, rfl⟩ := below_plus hb; clear hb))
  go_returns
  exact intsOut_err (by repeat (first | exact Below.refl _ _ | refine bl_plus ?_ | refine bl_alloc ?_ _ | refine bl_drew ?_))

set_option maxHeartbeats 1600000 in
set_option maxRecDepth 100000 in
theorem todayF_long (A B : Option Addr) (c c2 : Nat) (xs : List St) (rs : List Rv) (d bn ba : Int) (w : World) (hA : StsAt w A xs) (h : onErr xs d = 0) (hbd : bndOk bn ba) (hrl : 20000 < rs.length) :
    Calls Try.prog 27 #[.slice A xs.length c, .slice B rs.length c2, .int .i64 d, .agg #[.int .i64 bn, .int .i64 ba]] w (IntsOut (todayR xs rs d bn ba) w) := by
  have hR : todayR xs rs d bn ba = ([], 4) := by unfold todayR; rw [if_pos h, if_pos hbd, if_pos hrl]
  rw [hR]
  have hck := fun w h => checkOn_any A c xs d w h
  rw [h] at hck
  have hcb := fun w => checkBounds_any bn ba w
  rw [if_pos hbd] at hcb
  have H1 := hide hck
  have H2 := hide hcb
  have HA := hide hA
  clear hck h hA hR hcb hbd
  have hrl' : (20000 : Int) < (rs.length : Int) := by omega
  go_enter Try.func27, Try.ntmps27
  go_wp2_with (first | (go_at_call 65; refine (H1.out _ (HA.out.alloc _)).mono ?_; rintro e w' ⟨rfl, hb⟩; obtain ⟨os1, n1, rfl⟩ := below_plus hb; clear hb) | (go_at_call 68; refine (H2.out _).mono ?_; rintro e w' ⟨rfl, hb⟩; obtain ⟨os2, n2, rfl⟩ := below_plus hb; clear hb))
  go_returns
  exact intsOut_err (by repeat (first | exact Below.refl _ _ | refine bl_plus ?_ | refine bl_alloc ?_ _ | refine bl_drew ?_))

theorem todayF_any (A B : Option Addr) (c c2 : Nat) (xs : List St) (rs : List Rv) (d bn ba : Int) (w : World) (hA : StsAt w A xs) (hB : RvsAt w B rs) :
    Calls Try.prog 27 #[.slice A xs.length c, .slice B rs.length c2, .int .i64 d, .agg #[.int .i64 bn, .int .i64 ba]] w (IntsOut (todayR xs rs d bn ba) w) := by
  by_cases h : onErr xs d = 0
  · by_cases hbd : bndOk bn ba
    · by_cases hrl : 20000 < rs.length
      · exact todayF_long A B c c2 xs rs d bn ba w hA h hbd hrl
      · exact todayF_ok A B c c2 xs rs d bn ba w hA hB h hbd (by omega)
    · exact todayF_bound A B c c2 xs rs d bn ba w hA h hbd
  · exact todayF_bad A B c c2 xs rs d bn ba w hA h

end Go.Proofs.Ytokghdcfbbogdaa
