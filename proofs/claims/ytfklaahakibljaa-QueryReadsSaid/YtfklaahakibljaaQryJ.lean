/-
  WALKS: the reference's part of a query behind a quotation mark.
-/
import Derived.Test.YtfklaahakibljaaQryH
namespace Go.Proofs.Ytfklaahakibljaa
open Go.RowKit Go.Shelf

theorem OwnK.keepT {K : Nat} {e : TypeId} {W W' : World} {base n : Nat} {v : Value} {xs : List Value} (h : OwnK K e W base v n xs) (hk : KeepT e W W') : OwnK K e W' base v n xs := by
  refine h.kept fun k hv => ?_
  obtain ⟨_, A, c, rfl, _, _, h3⟩ := h
  rcases h3 with ⟨rfl, _⟩ | ⟨g, cur, rfl, _, hb, _⟩
  · cases hv
  · injection hv with hv
    subst hv
    exact (hk _ _ hb).trans hb.symm
theorem strsIn_ownK {w : World} {base m n c : Nat} {A : Option Addr} {ws : List ByteArray} (h : OwnK 1 9 w base (.slice A m c) n (ws.map Value.string)) : m = n ∧ ws.length = n ∧ StrsIn w A ws := by
  obtain ⟨hl, A', c', hv, _, _, h3⟩ := h
  injection hv with e1 e2 e3
  subst e1 e2 e3
  rw [List.length_map, Nat.mul_one] at hl
  refine ⟨rfl, hl, fun hp => ?_⟩
  rcases h3 with ⟨_, h0, _⟩ | ⟨g, cur, hA, _, hb, h4, h5⟩
  · omega
  · refine ⟨g, cur, hA, hb, fun j hj => ?_⟩
    have hq : (cur.toList.take (m * 1))[j]? = some (.string ws[j]) := by rw [h5, List.getElem?_map, List.getElem?_eq_getElem hj]; rfl
    rw [List.getElem?_take_of_lt (by omega)] at hq
    simpa using hq

set_option maxHeartbeats 6400000 in
set_option maxRecDepth 100000 in
theorem partAt_quote (s : ByteArray) (i : Nat) (w : World) (hi : i < s.size) (hc : (s[i].toNat : Int) = 34) (hs : s.size ≤ 400) :
    Calls Try.prog 69 #[.string s, .int .i64 i] w (PartROut w (phraseR s (i + 1))) := by
  have i1 : (i : Int) < (s.size : Int) := by omega
  have c34 : ((s[i].toNat : Int) == 34) = true := by rw [hc]; rfl
  have x1 : IntKind.i64.wrap ((i : Int) + 1) = ((i + 1 : Nat) : Int) := by rw [wrap_small] <;> omega
  have i2 : (i : Int) + 1 ≤ (s.size : Int) := by omega
  have h2 := ixB_ge (s.extract (i + 1) s.size) 34
  have h3 := ixB_lt (s.extract (i + 1) s.size) 34
  rw [ByteArray.size_extract] at h3
  obtain ⟨iP, hiP, hzP0, hzP1, hzP2⟩ := info_parts info_str
  have HIP := hide (And.intro hiP (And.intro hzP0 (And.intro hzP1 hzP2)))
  clear hiP hzP0 hzP1 hzP2 hc
  have hR : phraseR s (i + 1) = if ixB (s.extract (i + 1) s.size) 34 < 0 then .bad (((i + 1 : Nat) : Int) - 1)
    else if wTexts (s.extract (i + 1) (i + 1 + (ixB (s.extract (i + 1) s.size) 34).toNat)) = [] then .bad (((i + 1 : Nat) : Int) - 1)
    else .good ⟨3, wTexts (s.extract (i + 1) (i + 1 + (ixB (s.extract (i + 1) s.size) 34).toNat))⟩ (i + 1 + (ixB (s.extract (i + 1) s.size) 34).toNat + 1) := rfl
  generalize phraseR s (i + 1) = R at *
  have HIX := hide (fun w => indexByte_any (s.extract (i + 1) s.size) 34 w)
  generalize ixB (s.extract (i + 1) s.size) 34 = N at *
  by_cases hN : N < 0
  · rw [if_pos hN] at hR
    have hR2 : R = .bad i := by rw [hR]; congr 1; omega
    have HR := hide hR2
    clear hR hR2 h2 h3
    go_enter Try.func69, Try.ntmps69
    go_wp2_with (go_at_call 138; refine (HIX.out _).mono ?_; rintro e w' ⟨rfl, rfl⟩)
    rw [HR.out]
    exact bodyPost_ret (v := .tuple #[.agg #[.int .i64 0, .slice none 0 0], .int .i64 i, .bool false]) (by simp [results, Try.results69, go_sem]) rfl ⟨_, _, _, _, rfl, (by repeat (first | exact Below.refl _ _ | refine bl_plus ?_ | refine bl_alloc ?_ _ | refine bl_drew ?_))⟩
  · rw [if_neg hN] at hR
    obtain ⟨M, rfl⟩ : ∃ M : Nat, N = M := ⟨N.toNat, by omega⟩
    simp only [Int.toNat_natCast] at hR
    have hM : i + 1 + M < s.size := by omega
    have x2 : IntKind.i64.wrap ((i : Int) + 1 + (M : Int)) = ((i + 1 + M : Nat) : Int) := by rw [wrap_small] <;> omega
    have x3 : ((i + 1 + M : Nat) : Int) ≤ (s.size : Int) := by omega
    have hsz : (s.extract (i + 1) (i + 1 + M)).size ≤ 400 := by rw [ByteArray.size_extract]; omega
    have HWD := hide (fun w => wordsOf_any (s.extract (i + 1) (i + 1 + M)) w (by omega))
    have hlen : (wordsAt (s.extract (i + 1) (i + 1 + M)) 0).length ≤ 400 := Nat.le_trans (wordsF_len _ _ _) hsz
    unfold wTexts at hR
    generalize wordsAt (s.extract (i + 1) (i + 1 + M)) 0 = l at *
    have HR := hide hR
    have hM0 : ¬ (M : Int) < 0 := by omega
    clear hR h2 h3 hsz hN
    go_enter Try.func69, Try.ntmps69
    go_wp2_with (first
      | (go_at_call 138; refine (HIX.out _).mono ?_; rintro e w' ⟨rfl, rfl⟩)
      | (go_at_call 23; refine (HWD.out _).mono ?_; rintro e w' ⟨v, rfl, ho, hb⟩; obtain ⟨A0, c0, rfl, hcc, _⟩ := ho.form; obtain ⟨os1, n1, rfl⟩ := below_plus hb; have HO := hide ho; clear ho hb))
    have hm1 : ∀ (A : Option Addr) (c k : Nat), (w.alloc (.cells #[.int .i64 0, .slice A k c] 102)).heap.size = w.heap.size + 1 := fun _ _ _ => by simp
    have HM1 := hide hm1
    clear hm1
    go_loopw [40] (fun q wr => ∃ (k : Nat) (A : Option Addr) (c : Nat) (os : Array Obj) (n : Nat), k ≤ l.length ∧ q = .int .i64 k ∧ Hid (OwnK 3 34 wr (w.heap.size + 1) (.slice A0 l.length c0) l.length (flatW l) ∧ OwnK 1 9 wr (w.heap.size + 1) (.slice A k c) k ((l.map fun x => Value.string x.t).take k)) ∧ wr = plus (w.alloc (.cells #[.int .i64 0, .slice A k c] 102)) os n) (fun q _ => l.length - (intOf q).toNat)
    case atStart => exact ⟨0, none, 0, os1, n1, Nat.zero_le _, rfl, hide ⟨by simpa using HO.out, OwnK.empty⟩, rfl⟩
    case round =>
      clear HO
      obtain ⟨k, A, c, os, n, hk, rfl, HC, rfl⟩ := hrel
      have HW := hide HC.out.1
      have HS := hide HC.out.2
      clear HC
      by_cases hlt : k < l.length
      · obtain ⟨b, off, rfl, hb, hcell⟩ := HW.out.wds.2.2.2 (by omega)
        obtain ⟨x0, x1', x2'⟩ := hcell k hlt
        have htk : (l.map fun x => Value.string x.t).take (k + 1) = (l.map fun x => Value.string x.t).take k ++ [.string l[k].t] := by
          rw [List.take_succ_eq_append_getElem (by simpa using hlt), List.getElem_map]
        have HTK := hide htk
        clear hcell htk
        generalize l[k].t = xt at *
        generalize l[k].f = xf at *
        generalize l[k].u = xu at *
        have i3 : (k : Int) < (l.length : Int) := by omega
        go_wp2_with (at_builtin; go_loud (refine wpList_append_k rfl (.tmp 45) (.tmp 48) rfl rfl Try.underlying62 HIP.out.1 HIP.out.2.1 HIP.out.2.2.1 (by decide) rfl (by have := HIP.out.2.2.2; omega) (w.heap.size + 1) k (.slice A k c) ((l.map fun x => Value.string x.t).take k) [.string xt] _ rfl (by repeat (first | with_reducible exact HS.out | with_reducible refine OwnK.alloc ?_ _ | with_reducible refine OwnK.plus ?_ _ _)) rfl (by intro u hu; simp only [List.mem_cons, List.not_mem_nil, or_false] at hu; subst hu; rfl) rfl (new1_cell (by simp only [plus_size, World.size_alloc])) (by omega) (by simp only [World.size_alloc, plus_size]; omega) ?_); intro v' w1 hown1 hgr1 hfr1; go_loud (have HKG := hide (keepT_grown (t := 34) (e := 9) (K := 1) (base := w.heap.size + 1) (n := k) (v := .slice A k c) (xs := (l.map fun x => Value.string x.t).take k) (by repeat (first | with_reducible exact HS.out | with_reducible refine OwnK.alloc ?_ _ | with_reducible refine OwnK.plus ?_ _ _)) hgr1 (by decide))); go_loud (have HW2 := hide (OwnK.keepT (K := 3) (e := 34) (base := w.heap.size + 1) (n := l.length) (v := .slice (some ⟨b, off, none⟩) l.length c0) (xs := flatW l) (by repeat (first | with_reducible exact HW.out | with_reducible refine OwnK.alloc ?_ _ | with_reducible refine OwnK.plus ?_ _ _)) HKG.out)); go_loud (obtain ⟨os9, n9, rfl⟩ := grown_plus (L := w.alloc (.cells #[.int .i64 0, .slice A k c] 102)) (by repeat (first | exact Below.refl _ _ | refine bl_plus ?_ | refine bl_alloc ?_ _ | refine bl_drew ?_)) hgr1 (fun q hq => by rw [HM1.out]; exact (HS.out.lt q hq).1)); go_loud (obtain ⟨A1, c1, rfl, _⟩ := hown1.form); have HN := hide hown1; clear hown1 hgr1 hfr1 HKG)
        go_roundw
        case rel => exact ⟨k + 1, A1, c1, _, _, hlt, by go_num, hide ⟨HW2.out.plus2 (Nat.le_of_eq (HM1.out _ _ _)) (by rw [HM1.out, HM1.out]), by rw [HTK.out]; exact HN.out.plus2 (Nat.le_of_eq (HM1.out _ _ _)) (by rw [HM1.out, HM1.out])⟩, rfl⟩
        case measure => simp [intOf]; omega
      · have hkl : k = l.length := by omega
        subst hkl
        have hs2 := HS.out
        rw [List.take_of_length_le (by simp)] at hs2
        have HS2 := hide (show OwnK 1 9 _ (w.heap.size + 1) (.slice A l.length c) l.length ((l.map Wd.t).map Value.string) by rw [List.map_map]; exact hs2)
        have hR := HR.out
        have hll : (l.map Wd.t).length = l.length := List.length_map ..
        clear hs2 HS HW HR
        by_cases h0 : l = []
        · rw [if_pos (by rw [h0]; rfl)] at hR
          have hR2 : R = .bad i := by rw [hR]; congr 1; omega
          subst h0 hR2
          clear hR HS2 hll
          simp only [List.length_nil] at *
          go_wp2
          exact bodyPost_ret (v := .tuple #[.agg #[.int .i64 3, .slice A 0 c], .int .i64 i, .bool false]) (by simp [results, Try.results69, go_sem]) rfl ⟨_, _, _, _, rfl, (by repeat (first | exact Below.refl _ _ | refine bl_plus ?_ | refine bl_alloc ?_ _ | refine bl_drew ?_))⟩
        · have hpos : 0 < l.length := List.length_pos_iff.2 h0
          have hl0 : ((l.length : Int) == 0) = false := beq_eq_false_iff_ne.2 (by omega)
          have hl1 : ¬ ((l.length : Int) = 0) := by omega
          rw [if_neg (fun h => h0 (List.map_eq_nil_iff.1 h))] at hR
          subst hR
          have x5 : IntKind.i64.wrap ((i : Int) + (M : Int)) = (i : Int) + (M : Int) := by rw [wrap_small] <;> omega
          have x6 : IntKind.i64.wrap ((i : Int) + (M : Int) + 2) = ((i + 1 + M + 1 : Nat) : Int) := by rw [wrap_small] <;> omega
          go_wp2
          refine bodyPost_ret (v := .tuple #[.agg #[.int .i64 3, .slice A l.length c], .int .i64 (i + 1 + M + 1 : Nat), .bool true]) (by simp [results, Try.results69, go_sem]) rfl ⟨A, c, ?_, (strsIn_ownK (HS2.out.plus2 (Nat.le_of_eq (HM1.out _ _ _)) (by simp))).2.2, (by repeat (first | exact Below.refl _ _ | refine bl_plus ?_ | refine bl_alloc ?_ _ | refine bl_drew ?_))⟩
          rw [hll]

theorem partAt_any (s : ByteArray) (i : Nat) (w : World) (hi : i ≤ s.size) (hs : s.size ≤ 400) :
    Calls Try.prog 69 #[.string s, .int .i64 i] w (PartROut w (partR s i)) := by
  unfold partR
  by_cases h1 : i < s.size
  · rw [dif_pos h1]
    by_cases h2 : (s[i].toNat : Int) = 34
    · rw [if_pos h2]
      exact partAt_quote s i w h1 h2 hs
    · rw [if_neg h2]
      exact partAt_word s i w hi (fun _ => h2) hs
  · rw [dif_neg h1]
    exact partAt_word s i w hi (fun h => absurd h h1) hs

end Go.Proofs.Ytfklaahakibljaa
