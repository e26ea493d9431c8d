/-
  PLAIN AND WALK: what is wrong in a list of properties, by types, in the program.
-/
import Derived.Test.YtpbkidjbbhkjnaaDoorPpi
import Derived.Test.YtpbkidjbbhkjnaaDoorPpb
import Derived.StillTailTactics
namespace Go.Proofs.YtpbkidjbbhkjnaaDoor
open Go.RowKit Go.Lib

def faultErr (l : List PR) (t : TY) : Int := match firstIdx (prIs l t.n) l.length with
  | some k => (match l[k]? with | some p => t.fault p.v | none => 0)
  | none => if t.need = true then 7 else 0
theorem faultErr_some {l : List PR} {t : TY} {k : Nat} (h : firstIdx (prIs l t.n) l.length = some k) (hk : k < l.length) : faultErr l t = t.fault l[k].v := by
  unfold faultErr
  rw [h]
  simp only []
  rw [List.getElem?_eq_getElem hk]
theorem faultErr_none {l : List PR} {t : TY} (h : firstIdx (prIs l t.n) l.length = none) : faultErr l t = if t.need = true then 7 else 0 := by
  unfold faultErr
  rw [h]
def faults (l : List PR) (ts : List TY) : List (ByteArray × Int) := ts.filterMap (fun t => if faultErr l t = 0 then none else some (t.n, faultErr l t))
theorem faults_zero {l : List PR} {ts : List TY} {k : Nat} (hk : k < ts.length) (h : faultErr l ts[k] = 0) : faults l (ts.take (k + 1)) = faults l (ts.take k) := by
  unfold faults
  rw [List.take_succ_eq_append_getElem hk, List.filterMap_append]
  simp [h]
theorem faults_more {l : List PR} {ts : List TY} {k : Nat} (hk : k < ts.length) (h : faultErr l ts[k] ≠ 0) : faults l (ts.take (k + 1)) = faults l (ts.take k) ++ [(ts[k].n, faultErr l ts[k])] := by
  unfold faults
  rw [List.take_succ_eq_append_getElem hk, List.filterMap_append]
  simp [h]
theorem faults_len {l : List PR} {ts : List TY} {k : Nat} : (faults l (ts.take k)).length ≤ k := by
  unfold faults
  have h1 := List.length_filterMap_le (fun t : TY => if faultErr l t = 0 then none else some (t.n, faultErr l t)) (ts.take k)
  rw [List.length_take] at h1
  omega
def flatF (fs : List (ByteArray × Int)) : List Value := fs.flatMap (fun f => [.string f.1, .int .i64 f.2])
theorem flatF_append (a b : List (ByteArray × Int)) : flatF (a ++ b) = flatF a ++ flatF b := List.flatMap_append
theorem flatF_len : ∀ fs : List (ByteArray × Int), (flatF fs).length = fs.length * 2
  | [] => rfl
  | f :: fs => by
    have ih := flatF_len fs
    show ([Value.string f.1, .int .i64 f.2] ++ flatF fs).length = _
    rw [List.length_append, ih]
    simp only [List.length_cons, List.length_nil]
    omega
theorem flatF_get : ∀ (fs : List (ByteArray × Int)) (j : Nat) (h : j < fs.length), (flatF fs)[j * 2]? = some (.string fs[j].1) ∧ (flatF fs)[j * 2 + 1]? = some (.int .i64 fs[j].2)
  | f :: fs, 0, _ => ⟨rfl, rfl⟩
  | f :: fs, j + 1, h => by
    have ih := flatF_get fs j (by simpa using h)
    show ([Value.string f.1, .int .i64 f.2] ++ flatF fs)[(j + 1) * 2]? = _ ∧ ([Value.string f.1, .int .i64 f.2] ++ flatF fs)[(j + 1) * 2 + 1]? = _
    rw [List.getElem?_append_right (by simp; omega), List.getElem?_append_right (by simp; omega)]
    simp only [List.length_cons, List.length_nil, List.getElem_cons_succ]
    rw [show (j + 1) * 2 - (0 + 1 + 1) = j * 2 by omega, show (j + 1) * 2 + 1 - (0 + 1 + 1) = j * 2 + 1 by omega]
    exact ih
theorem OwnK.faults {w : World} {base n m c : Nat} {A : Option Addr} {fs : List (ByteArray × Int)} (h : OwnK 2 30 w base (.slice A m c) n (flatF fs)) :
    m = n ∧ fs.length = n ∧ m ≤ c ∧ c ≤ maxLen ∧ (A = none → c = 0) ∧ (∀ a, A = some a → ∃ g, a = ⟨g, 0, none⟩) ∧ FAt w A fs := by
  obtain ⟨hl, A', c', hv, h1, h2, h3⟩ := h
  injection hv with e1 e2 e3
  subst e1 e2 e3
  rw [flatF_len] at hl
  have hn : fs.length = m := by omega
  refine ⟨rfl, hn, h1, h2, ?_, ?_, by omega, fun hp => ?_⟩
  · rintro rfl
    rcases h3 with ⟨_, _, h⟩ | ⟨g, _, h, _⟩
    · exact h
    · cases h
  · rintro a rfl
    rcases h3 with ⟨h, _⟩ | ⟨g, _, h, _⟩
    · cases h
    · exact ⟨g, Option.some.inj h⟩
  · rcases h3 with ⟨_, h0, _⟩ | ⟨g, cur, hA, hg, hb, h4, h5⟩
    · omega
    · refine ⟨g, 0, hA, (Array.getElem?_eq_some_iff.1 hb).1, fun j hj => ?_⟩
      have hget := flatF_get fs j hj
      have hc : ∀ i, i < 2 → w.cell? ⟨g, 0 + j * 2 + i, none⟩ = (flatF fs)[j * 2 + i]? := fun i hi => by
        rw [Nat.zero_add, cell_of_row w g _ cur _ (0, 0) hb, ← h5, List.getElem?_take_of_lt (by omega)]; simp
      exact ⟨(hc 0 (by omega)).trans hget.1, (hc 1 (by omega)).trans hget.2⟩
theorem new2_at {w : World} {t : TypeId} {a b : Value} {g : Nat} (hg : g = w.heap.size) : ∀ j u, ([a, b] : List Value)[j]? = some u → (w.alloc (.cells #[a, b] t)).cell? ((⟨g, 0, none⟩ : Addr).add j) = some u := by
  subst hg
  intro j u hj
  have hadd : (⟨w.heap.size, 0, none⟩ : Addr).add j = ⟨w.heap.size, j, none⟩ := by unfold Addr.add; split <;> simp_all
  rw [hadd, (Blk.new w t #[a, b]).cell j]
  simpa using hj
theorem OwnK.alloc {K : Nat} {e : TypeId} {w : World} {base : Nat} {v : Value} {n : Nat} {xs : List Value} (h : OwnK K e w base v n xs) (o : Obj) : OwnK K e (w.alloc o) base v n xs := h.kept fun k hk => Below.heap_alloc w o k (h.lt k hk).2
theorem OwnK.plus {K : Nat} {e : TypeId} {w : World} {base : Nat} {v : Value} {n : Nat} {xs : List Value} (h : OwnK K e w base v n xs) (os : Array Obj) (q : Nat) : OwnK K e (plus w os q) base v n xs := h.kept fun k hk => plus_heap (h.lt k hk).2
theorem OwnK.drew {K : Nat} {e : TypeId} {w : World} {base : Nat} {v : Value} {n : Nat} {xs : List Value} (h : OwnK K e w base v n xs) : OwnK K e w.drew base v n xs := h.kept fun _ _ => rfl
theorem OwnK.form {K : Nat} {e : TypeId} {w : World} {base : Nat} {v : Value} {n : Nat} {xs : List Value} (h : OwnK K e w base v n xs) : ∃ A c, v = .slice A n c ∧ n ≤ c := by
  obtain ⟨_, A, c, rfl, h1, _⟩ := h
  exact ⟨A, c, rfl, h1⟩
theorem info_fault : (Tryd.prog.info? 30).map (fun i => (i.zero, i.size, i.bytes)) = some (some (.agg #[.string ByteArray.empty, .int .i64 0]), 2, 24) := by kernel_rfl
/-- What Faults hands back: an error, or what is wrong. -/
def resErr (ts : List TY) (l : List PR) : Int := if typesErr ts ≠ 0 then typesErr ts else propsErr l
def resList (ts : List TY) (l : List PR) : List (ByteArray × Int) := if resErr ts l = 0 then faults l ts else []
def FaultsOut (ts : List TY) (l : List PR) (w : World) (e : Ending) (w' : World) : Prop :=
  ∃ A c, e = .returned (.tuple #[.slice A (resList ts l).length c, .int .i64 (resErr ts l)]) ∧ FAt w' A (resList ts l) ∧ Below w.heap.size w w'
theorem len_of_typesErr {ts : List TY} (h : typesErr ts = 0) : ts.length ≤ 40 := by
  rcases Nat.lt_or_ge 40 ts.length with h1 | h1
  · rw [typesErr_large h1] at h; cases h
  · exact h1

set_option maxHeartbeats 25600000 in
set_option maxRecDepth 100000 in
theorem faults_any (ts : List TY) (l : List PR) (A B : Option Addr) (c c' : Nat) (w : World) (hA : TsAt w A ts) (hcap : ts.length ≤ c) (hB : PsAt w B l) :
    Calls Tryd.prog 5 #[.slice A ts.length c, .slice B l.length c'] w (FaultsOut ts l w) := by
  have HT := hide (fun W (hbw : Below w.heap.size w W) => checkTypes_any ts A c W (hA.below hbw) hcap)
  have HP := hide (fun W (hbw : Below w.heap.size w W) => checkProps_any l B c' W (hB.below hbw))
  unfold FaultsOut
  have hRL : resList ts l = if resErr ts l = 0 then faults l ts else [] := rfl
  have hRE : resErr ts l = if typesErr ts ≠ 0 then typesErr ts else propsErr l := rfl
  by_cases ht : typesErr ts = 0
  case neg =>
    rw [if_pos ht] at hRE
    rw [hRE, if_neg ht] at hRL
    rw [hRL, hRE]
    generalize typesErr ts = E at *
    have q1 := bne_iff_ne.2 ht
    clear hRL hRE ht hA hB
    go_enter Tryd.func5, Tryd.ntmps5
    go_wp2_with (go_at_call 8; refine (HT.out _ ?hbw).mono ?_; (case hbw => repeat (first | exact Below.refl _ _ | refine bl_plus ?_ | refine bl_alloc ?_ _ | refine bl_drew ?_ | refine bl_drewN ?_ _)); rintro e w' ⟨rfl, hbl⟩; obtain ⟨os1, n1, rfl⟩ := below_plus hbl; clear hbl)
    go_ret2
    exact ⟨none, 0, rfl, FAt.nil, (by repeat (first | exact Below.refl _ _ | refine bl_plus ?_ | refine bl_alloc ?_ _ | refine bl_drew ?_ | refine bl_drewN ?_ _))⟩
  rw [if_neg (by omega)] at hRE
  by_cases hp : propsErr l = 0
  case neg =>
    rw [hRE, if_neg hp] at hRL
    rw [hRL, hRE]
    rw [ht] at HT
    generalize propsErr l = E at *
    have q1 := bne_iff_ne.2 hp
    clear hRL hRE ht hp hA hB
    go_enter Tryd.func5, Tryd.ntmps5
    go_wp2_with (first | (go_at_call 8; refine (HT.out _ ?hbw).mono ?_; (case hbw => repeat (first | exact Below.refl _ _ | refine bl_plus ?_ | refine bl_alloc ?_ _ | refine bl_drew ?_ | refine bl_drewN ?_ _)); rintro e w' ⟨rfl, hbl⟩; obtain ⟨os1, n1, rfl⟩ := below_plus hbl; clear hbl) | (go_at_call 13; refine (HP.out _ ?hbw).mono ?_; (case hbw => repeat (first | exact Below.refl _ _ | refine bl_plus ?_ | refine bl_alloc ?_ _ | refine bl_drew ?_ | refine bl_drewN ?_ _)); rintro e w' ⟨rfl, hbl⟩; obtain ⟨os2, n2, rfl⟩ := below_plus hbl; clear hbl))
    go_ret2
    exact ⟨none, 0, rfl, FAt.nil, (by repeat (first | exact Below.refl _ _ | refine bl_plus ?_ | refine bl_alloc ?_ _ | refine bl_drew ?_ | refine bl_drewN ?_ _))⟩
  rw [hp] at hRE HP
  rw [hRE, if_pos rfl] at hRL
  rw [hRL, hRE]
  rw [ht] at HT
  have hl40 := len_of_typesErr ht
  have hm := hA.1
  have hm2 := hB.1
  unfold maxLen at hm hm2
  have HA := hide hA
  have HB := hide hB
  obtain ⟨iP, hiP, hzP0, hzP1, hzP2⟩ := info_parts info_fault
  have HIP := hide (And.intro hiP (And.intro hzP0 (And.intro hzP1 hzP2)))
  clear hiP hzP0 hzP1 hzP2 hRL hRE ht hp hA hB
  have HTK := hide (show faults l ts = faults l (ts.take ts.length) by rw [List.take_length])
  generalize faults l ts = R at *
  have HTK := hide (fun k (h : k = ts.length) => (by subst h; exact HTK.out : R = faults l (ts.take k)))
  go_enter Tryd.func5, Tryd.ntmps5
  go_wp2_with (first | (go_at_call 8; refine (HT.out _ ?hbw).mono ?_; (case hbw => repeat (first | exact Below.refl _ _ | refine bl_plus ?_ | refine bl_alloc ?_ _ | refine bl_drew ?_ | refine bl_drewN ?_ _)); rintro e w' ⟨rfl, hbl⟩; obtain ⟨os1, n1, rfl⟩ := below_plus hbl; clear hbl) | (go_at_call 13; refine (HP.out _ ?hbw).mono ?_; (case hbw => repeat (first | exact Below.refl _ _ | refine bl_plus ?_ | refine bl_alloc ?_ _ | refine bl_drew ?_ | refine bl_drewN ?_ _)); rintro e w' ⟨rfl, hbl⟩; obtain ⟨os2, n2, rfl⟩ := below_plus hbl; clear hbl))
  go_loopw [8, 25] (fun v i wr => ∃ (k m : Nat) (fs : List (ByteArray × Int)) (A : Option Addr) (c : Nat) (os : Array Obj) (n : Nat), k ≤ ts.length ∧ i = .int .i64 k ∧ v = .slice A m c ∧ Hid (fs = faults l (ts.take k)) ∧ Hid (OwnK 2 30 wr w.heap.size (.slice A m c) m (flatF fs)) ∧ wr = plus w os n) (fun _ i _ => ts.length - (intOf i).toNat)
  case atStart => exact ⟨0, 0, [], none, 0, _, _, Nat.zero_le _, rfl, rfl, hide rfl, hide OwnK.empty, plus_plus⟩
  clear HT HP
  case round =>
    obtain ⟨k, m, fs, A, c, os, n, hk, rfl, rfl, HFS, HS, rfl⟩ := hrel
    by_cases hlt : k < ts.length
    · obtain ⟨b, o, hAb, hb, hv⟩ := HA.out.2 (by omega)
      subst hAb
      have hmk : m ≤ k := by
        have h1 := HS.out.faults.2.1
        have h2 := faults_len (l := l) (ts := ts) (k := k)
        rw [← HFS.out] at h2
        omega
      obtain ⟨c0, hns, c1, c2, c4, c5, A2, e2, c3, hS, hcap2⟩ := hv k hlt
      have HZ := hide (fun h => faults_zero (l := l) hlt h)
      have HM := hide (fun h => faults_more (l := l) hlt h)
      have HFI := hide (fun W (hbw : Below w.heap.size w W) => find_any B c' l ts[k].n W (HB.out.below hbw))
      have HSA := hide hS
      have hm3 := hS.1
      unfold maxLen at hm3
      clear hv hns HA hS hcap2 HTK
      cases hR : firstIdx (prIs l ts[k].n) l.length with
      | some q =>
        have hq := (firstIdx_lt hR).1
        have hE := faultErr_some hR hq
        obtain ⟨b2, o2, hBb, hb2, hv2⟩ := HB.out.2 (by omega)
        subst hBb
        obtain ⟨d0, -, d1, d2, d3, d4, A4, e4, d5, hL⟩ := (hv2 q hq).cells
        have hL1 := hL.1
        have HFO := hide (fun W (hbw : Below w.heap.size w W) => faultOf_any ts[k] l[q].v A2 A4 e2 e4 W (HSA.out.below hbw) hL1)
        rw [hR] at HFI
        have hqi : (q : Int) < (l.length : Int) := by omega
        unfold maxLen at hL1
        clear hv2 hL HB hR
        rw [← hE] at HFO
        clear hE
        generalize faultErr l ts[k] = E at *
        generalize ts[k] = y at *
        obtain ⟨tn, tk, tb, tc, tl, th⟩ := y
        generalize l[q] = x at *
        obtain ⟨xn, ⟨xk, xi, xt, xs, xl⟩⟩ := x
        simp only [TY.arg, V.arg, V.k, V.i, V.t, V.s, V.l, idxInt] at *
        by_cases hz : E = 0
        · subst hz
          go_upto_region 14 with (go_at_call 14; refine (HFI.out _ ?hbw).mono ?_; (case hbw => repeat (first | exact Below.refl _ _ | refine bl_plus ?_ | refine bl_alloc ?_ _ | refine bl_drew ?_ | refine bl_drewN ?_ _)); rintro e w' ⟨rfl, hbl⟩; obtain ⟨os3, n3, rfl⟩ := below_plus hbl; clear hbl)
          go_still_tail 6, (by kernel_rfl)
          change wpList _ _ _ _ _ (World.drew _)
          go_wp2_with (go_at_call 15; refine (HFO.out _ ?hbw).mono ?_; (case hbw => repeat (first | exact Below.refl _ _ | refine bl_plus ?_ | refine bl_alloc ?_ _ | refine bl_drew ?_ | refine bl_drewN ?_ _)); rintro e w' ⟨rfl, hbl⟩; obtain ⟨os4, n4, rfl⟩ := below_plus hbl; clear hbl)
          go_roundw
          case rel => exact ⟨k + 1, m, fs, A, c, _, _, hlt, by go_num, rfl, hide ((HZ.out (by trivial)).symm ▸ HFS.out), hide (by repeat (first | with_reducible exact HS.out | with_reducible refine OwnK.alloc ?_ _ | with_reducible refine OwnK.plus ?_ _ _ | with_reducible refine OwnK.drew ?_)), by first | rfl | (simp only [plus_alloc, plus_plus, plus_drewN, plus_drew]; rfl)⟩
          case measure => simp [intOf]; omega
        · have q1 := bne_iff_ne.2 hz
          go_upto_region 14 with (go_at_call 14; refine (HFI.out _ ?hbw).mono ?_; (case hbw => repeat (first | exact Below.refl _ _ | refine bl_plus ?_ | refine bl_alloc ?_ _ | refine bl_drew ?_ | refine bl_drewN ?_ _)); rintro e w' ⟨rfl, hbl⟩; obtain ⟨os3, n3, rfl⟩ := below_plus hbl; clear hbl)
          go_still_tail 6, (by kernel_rfl)
          change wpList _ _ _ _ _ (World.drew _)
          go_wp2_with (first | (go_at_call 15; refine (HFO.out _ ?hbw).mono ?_; (case hbw => repeat (first | exact Below.refl _ _ | refine bl_plus ?_ | refine bl_alloc ?_ _ | refine bl_drew ?_ | refine bl_drewN ?_ _)); rintro e w' ⟨rfl, hbl⟩; obtain ⟨os4, n4, rfl⟩ := below_plus hbl; clear hbl) | (at_builtin; refine wpList_append_k rfl (.tmp 46) (.tmp 51) rfl rfl Tryd.underlying24 HIP.out.1 HIP.out.2.1 HIP.out.2.2.1 (by decide) rfl (by have := HIP.out.2.2.2; omega) w.heap.size m (.slice A m c) (flatF fs) [.string tn, .int .i64 E] _ rfl (by repeat (first | with_reducible exact HS.out | with_reducible refine OwnK.alloc ?_ _ | with_reducible refine OwnK.plus ?_ _ _ | with_reducible refine OwnK.drew ?_)) rfl (by intro u hu; simp only [List.mem_cons, List.not_mem_nil, or_false] at hu; rcases hu with rfl | rfl <;> rfl) rfl (new2_at (by simp only [World.size_alloc, plus_size, World.drew])) (by omega) (by simp only [World.size_alloc, plus_size, World.drew]; omega) ?_; intro v' w1 hown1 hgr1 hfr1; obtain ⟨os9, n9, rfl⟩ := grown_plus (L := w) (by repeat (first | exact Below.refl _ _ | refine bl_plus ?_ | refine bl_alloc ?_ _ | refine bl_drew ?_ | refine bl_drewN ?_ _)) hgr1 (fun q hq => (HS.out.lt q hq).1); obtain ⟨A1, c1, rfl, _⟩ := hown1.form; have HN := hide hown1; clear hown1 hgr1 hfr1))
          go_roundw
          case rel => exact ⟨k + 1, m + 1, fs ++ [(tn, E)], A1, c1, _, _, hlt, by go_num, rfl, hide (by rw [HM.out hz, ← HFS.out]), hide (by rw [flatF_append]; exact HN.out), rfl⟩
          case measure => simp [intOf]; omega
      | none =>
        have hE := faultErr_none hR
        rw [hR] at HFI
        clear hR HB
        generalize faultErr l ts[k] = E at *
        generalize ts[k] = y at *
        obtain ⟨tn, tk, tb, tc, tl, th⟩ := y
        simp only [TY.arg, idxInt] at *
        cases tb with
        | true =>
          have hE7 : E = 7 := by rw [hE, if_pos rfl]
          have hz : E ≠ 0 := by rw [hE7]; decide
          subst hE7
          clear hE
          go_wp2_with (first | (go_at_call 14; refine (HFI.out _ ?hbw).mono ?_; (case hbw => repeat (first | exact Below.refl _ _ | refine bl_plus ?_ | refine bl_alloc ?_ _ | refine bl_drew ?_ | refine bl_drewN ?_ _)); rintro e w' ⟨rfl, hbl⟩; obtain ⟨os3, n3, rfl⟩ := below_plus hbl; clear hbl) | (at_builtin; refine wpList_append_k rfl (.tmp 46) (.tmp 51) rfl rfl Tryd.underlying24 HIP.out.1 HIP.out.2.1 HIP.out.2.2.1 (by decide) rfl (by have := HIP.out.2.2.2; omega) w.heap.size m (.slice A m c) (flatF fs) [.string tn, .int .i64 7] _ rfl (by repeat (first | with_reducible exact HS.out | with_reducible refine OwnK.alloc ?_ _ | with_reducible refine OwnK.plus ?_ _ _ | with_reducible refine OwnK.drew ?_)) rfl (by intro u hu; simp only [List.mem_cons, List.not_mem_nil, or_false] at hu; rcases hu with rfl | rfl <;> rfl) rfl (new2_at (by simp only [World.size_alloc, plus_size, World.drew])) (by omega) (by simp only [World.size_alloc, plus_size, World.drew]; omega) ?_; intro v' w1 hown1 hgr1 hfr1; obtain ⟨os9, n9, rfl⟩ := grown_plus (L := w) (by repeat (first | exact Below.refl _ _ | refine bl_plus ?_ | refine bl_alloc ?_ _ | refine bl_drew ?_ | refine bl_drewN ?_ _)) hgr1 (fun q hq => (HS.out.lt q hq).1); obtain ⟨A1, c1, rfl, _⟩ := hown1.form; have HN := hide hown1; clear hown1 hgr1 hfr1))
          go_roundw
          case rel => exact ⟨k + 1, m + 1, fs ++ [(tn, 7)], A1, c1, _, _, hlt, by go_num, rfl, hide (by rw [HM.out hz, ← HFS.out]), hide (by rw [flatF_append]; exact HN.out), rfl⟩
          case measure => simp [intOf]; omega
        | false =>
          have hE0 : E = 0 := by rw [hE, if_neg Bool.false_ne_true]
          subst hE0
          clear hE
          go_wp2_with (go_at_call 14; refine (HFI.out _ ?hbw).mono ?_; (case hbw => repeat (first | exact Below.refl _ _ | refine bl_plus ?_ | refine bl_alloc ?_ _ | refine bl_drew ?_ | refine bl_drewN ?_ _)); rintro e w' ⟨rfl, hbl⟩; obtain ⟨os3, n3, rfl⟩ := below_plus hbl; clear hbl)
          go_roundw
          case rel => exact ⟨k + 1, m, fs, A, c, _, _, hlt, by go_num, rfl, hide ((HZ.out (by trivial)).symm ▸ HFS.out), hide (by repeat (first | with_reducible exact HS.out | with_reducible refine OwnK.alloc ?_ _ | with_reducible refine OwnK.plus ?_ _ _ | with_reducible refine OwnK.drew ?_)), by first | rfl | (simp only [plus_alloc, plus_plus, plus_drewN, plus_drew]; rfl)⟩
          case measure => simp [intOf]; omega
    · have hkl : k = ts.length := by omega
      have hRR := HTK.out k hkl
      subst hkl
      rw [← HFS.out] at hRR
      subst hRR
      obtain ⟨hmn, hfl, hmc, hcm, hnil, hoff, hat⟩ := HS.out.faults
      subst hfl
      clear HS HFS HTK HA HB
      have HAT := hide hat
      have HCL := hide (clipF_any A _ c (plus w os n) hmc hcm hnil hoff)
      clear hat hmc hcm hnil hoff
      go_wp2_with (go_at_call 16; refine HCL.out.mono ?_; rintro e w' ⟨rfl, rfl⟩)
      go_ret2
      exact ⟨A, _, rfl, HAT.out, (by repeat (first | exact Below.refl _ _ | refine bl_plus ?_ | refine bl_alloc ?_ _ | refine bl_drew ?_ | refine bl_drewN ?_ _))⟩

end Go.Proofs.YtpbkidjbbhkjnaaDoor
