/-
  WALK: a template cut into pieces, in the program.
-/
import Derived.Test.YtpbkidjbbhkjnaaTmb
import Derived.Test.YtpbkidjbbhkjnaaOwnM
import Derived.Deep.AppendLies
import Derived.Deep.RegionLaw
namespace Go.Proofs
open Go.Shelf Go.RowKit
theorem Try.hasPrefix_any (s p : ByteArray) (w : World) : Calls Try.prog 46 #[.string s, .string p] w fun e w' => e = .returned (.bool (Lib.hasPrefix s.data.toList p.data.toList)) ∧ w' = w :=
  Any.strings_HasPrefix Try.prefL s p w
end Go.Proofs
namespace Go.Proofs.Ytpbkidjbbhkjnaa
open Go.RowKit

/-- A piece of a template. -/
structure Pc where
  t : ByteArray
  n : ByteArray
  o : ByteArray
  h : Bool
def Pc.cells (p : Pc) : List Value := [.string p.t, .string p.n, .string p.o, .bool p.h]
def flatPc (ps : List Pc) : List Value := ps.flatMap Pc.cells
theorem flatPc_append (a b : List Pc) : flatPc (a ++ b) = flatPc a ++ flatPc b := List.flatMap_append
theorem flatPc_len : ∀ ps : List Pc, (flatPc ps).length = ps.length * 4
  | [] => rfl
  | p :: ps => by
    have ih := flatPc_len ps
    show (p.cells ++ flatPc ps).length = _
    rw [List.length_append, ih]
    simp only [Pc.cells, List.length_cons, List.length_nil]
    omega
theorem flatPc_get : ∀ (ps : List Pc) (j i : Nat) (h : j < ps.length), i < 4 → (flatPc ps)[j * 4 + i]? = ps[j].cells[i]?
  | p :: ps, 0, i, _, hi => by
    show (p.cells ++ flatPc ps)[0 * 4 + i]? = _
    rw [List.getElem?_append_left (by simp only [Pc.cells, List.length_cons, List.length_nil]; omega)]
    simp only [Nat.zero_mul, Nat.zero_add, List.getElem_cons_zero]
  | p :: ps, j + 1, i, h, hi => by
    have ih := flatPc_get ps j i (by simpa using h) hi
    show (p.cells ++ flatPc ps)[(j + 1) * 4 + i]? = _
    rw [List.getElem?_append_right (by simp only [Pc.cells, List.length_cons, List.length_nil]; omega)]
    rw [show (j + 1) * 4 + i - p.cells.length = j * 4 + i by simp only [Pc.cells, List.length_cons, List.length_nil]; omega]
    exact ih
/-- The names of pieces. -/
def pcNames (ps : List Pc) : List ByteArray := (ps.filter (fun p => decide (p.n.size ≠ 0))).map (·.n)
theorem pcNames_append (a b : List Pc) : pcNames (a ++ b) = pcNames a ++ pcNames b := by
  unfold pcNames
  rw [List.filter_append, List.map_append]
theorem pcNames_text (t o : ByteArray) (h : Bool) : pcNames [⟨t, ⟨#[]⟩, o, h⟩] = [] := rfl
theorem pcNames_field {t0 o0 t n o : ByteArray} {h0 h : Bool} (hn : n.size ≠ 0) : pcNames [⟨t0, ⟨#[]⟩, o0, h0⟩, ⟨t, n, o, h⟩] = [n] := by
  show pcNames ([⟨t0, ⟨#[]⟩, o0, h0⟩] ++ [⟨t, n, o, h⟩]) = _
  rw [pcNames_append, pcNames_text]
  unfold pcNames
  rw [List.filter_cons_of_pos (by simpa using hn)]
  rfl
/-- Where pieces lie. -/
def PcAt (w : World) (A : Option Addr) (ps : List Pc) : Prop :=
  ps.length ≤ maxLen ∧ (0 < ps.length → ∃ b' o', A = some ⟨b', o', none⟩ ∧ b' < w.heap.size ∧ ∀ j (h : j < ps.length), w.cell? ⟨b', o' + j * 4, none⟩ = some (.string ps[j].t) ∧ w.cell? ⟨b', o' + j * 4 + 1, none⟩ = some (.string ps[j].n) ∧
    w.cell? ⟨b', o' + j * 4 + 2, none⟩ = some (.string ps[j].o) ∧ w.cell? ⟨b', o' + j * 4 + 3, none⟩ = some (.bool ps[j].h))
theorem PcAt.below {w w' : World} {A : Option Addr} {l : List Pc} (h : PcAt w A l) (hb : Below w.heap.size w w') : PcAt w' A l :=
  ⟨h.1, fun hl => by
    obtain ⟨b', o', hA, hb', hj⟩ := h.2 hl
    have hk : ∀ i, w'.cell? ⟨b', i, none⟩ = w.cell? ⟨b', i, none⟩ := fun i => hb.cell (p := ⟨b', i, none⟩) hb'
    exact ⟨b', o', hA, Nat.lt_of_lt_of_le hb' hb.size, fun j h => by
      obtain ⟨h0, h1, h2, h3⟩ := hj j h
      exact ⟨(hk _).trans h0, (hk _).trans h1, (hk _).trans h2, (hk _).trans h3⟩⟩⟩
theorem OwnK.pcs {w : World} {base n m c : Nat} {A : Option Addr} {ps : List Pc} (h : OwnK 4 71 w base (.slice A m c) n (flatPc ps)) : m = n ∧ ps.length = n ∧ PcAt w A ps := by
  obtain ⟨hl, A', c', hv, h1, h2, h3⟩ := h
  injection hv with e1 e2 e3
  subst e1 e2 e3
  rw [flatPc_len] at hl
  have hn : ps.length = m := by omega
  refine ⟨rfl, hn, by omega, fun hp => ?_⟩
  rcases h3 with ⟨_, h0, _⟩ | ⟨g, cur, hA, hg, hb, h4, h5⟩
  · omega
  · refine ⟨g, 0, hA, (Array.getElem?_eq_some_iff.1 hb).1, fun j hj => ?_⟩
    have hc : ∀ i, i < 4 → w.cell? ⟨g, 0 + j * 4 + i, none⟩ = ps[j].cells[i]? := fun i hi => by
      rw [← flatPc_get ps j i hj hi, Nat.zero_add, cell_of_row w g _ cur _ (0, 0) hb, ← h5, List.getElem?_take_of_lt (by omega)]; simp
    exact ⟨hc 0 (by omega), hc 1 (by omega), hc 2 (by omega), hc 3 (by omega)⟩
theorem OwnK.alloc {K : Nat} {e : TypeId} {w : World} {base : Nat} {v : Value} {n : Nat} {xs : List Value} (h : OwnK K e w base v n xs) (o : Obj) : OwnK K e (w.alloc o) base v n xs := h.kept fun k hk => Below.heap_alloc w o k (h.lt k hk).2
theorem OwnK.plus {K : Nat} {e : TypeId} {w : World} {base : Nat} {v : Value} {n : Nat} {xs : List Value} (h : OwnK K e w base v n xs) (os : Array Obj) (q : Nat) : OwnK K e (plus w os q) base v n xs := h.kept fun k hk => plus_heap (h.lt k hk).2
theorem OwnK.drew {K : Nat} {e : TypeId} {w : World} {base : Nat} {v : Value} {n : Nat} {xs : List Value} (h : OwnK K e w base v n xs) : OwnK K e w.drew base v n xs := h.kept fun _ _ => rfl
theorem OwnK.form {K : Nat} {e : TypeId} {w : World} {base : Nat} {v : Value} {n : Nat} {xs : List Value} (h : OwnK K e w base v n xs) : ∃ A c, v = .slice A n c ∧ n ≤ c := by
  obtain ⟨_, A, c, rfl, h1, _⟩ := h
  exact ⟨A, c, rfl, h1⟩
theorem newN_at {w : World} {t : TypeId} {cs : List Value} {g : Nat} (hg : g = w.heap.size) : ∀ j u, cs[j]? = some u → (w.alloc (.cells cs.toArray t)).cell? ((⟨g, 0, none⟩ : Addr).add j) = some u := by
  subst hg
  intro j u hj
  have hadd : (⟨w.heap.size, 0, none⟩ : Addr).add j = ⟨w.heap.size, j, none⟩ := by unfold Addr.add; split <;> simp_all
  rw [hadd, (Blk.new w t cs.toArray).cell j]
  simpa using hj
theorem info_piece : (Try.prog.info? 71).map (fun i => (i.zero, i.size, i.bytes)) = some (some (.agg #[.string ByteArray.empty, .string ByteArray.empty, .string ByteArray.empty, .bool false]), 4, 56) := by kernel_rfl
theorem extract_drop (s : ByteArray) (i : Nat) : (s.extract i s.size).data.toList = s.data.toList.drop i := by
  rw [Lib.extract_data, Lib.size_eq]
  exact List.take_of_length_le (by rw [List.length_drop]; exact Nat.le_refl _)

theorem step_append_m {K : Nat} {t e : TypeId} {i0 : TypeInfo} {z : Value} {ops : Array Oper} {o : Oper} {a : Act} {W : World} {KK : Act → World → Prop} {Q : Exit → Act → World → Prop} {E : Prop} (hgd : o.guard = none) (s x : Operand)
    (ho : o.op = .call { callee := .builtin .append, args := #[s, x], argTypes := #[t, t] }) (hty : o.type = t) (ht : Try.prog.underlying t = some (.slice e)) (hi : Try.prog.info? e = some i0) (hz0 : i0.zero = some z) (hz1 : i0.size = K) (hK : 0 < K) (hzs : z.cells.size = K) (hby : i0.bytes ≤ 1000)
    (base n q : Nat) (v : Value) (xs news : List Value) (g : Nat) (hs : a.eval s = v) (hown : OwnK K e W base v n xs) (hq : 0 < q) (hl : news.length = q * K) (h1 : ∀ u ∈ news, u.oneCell' = true)
    (hx : a.eval x = .slice (some ⟨g, 0, none⟩) q q) (hnews : ∀ j u, news[j]? = some u → W.cell? ((⟨g, 0, none⟩ : Addr).add j) = some u) (hn : n + q ≤ 1000000) (hbase : base ≤ W.heap.size)
    (h : ∀ v' w', OwnK K e w' base v' (n + q) (xs ++ news) → W.grownBy w' v.ownBlock → (v'.ownBlock = v.ownBlock ∨ ∃ g, v'.ownBlock = some g ∧ W.heap.size ≤ g) → KK (a.put o.dst v') w') :
    if Region.wanted o (yielded ops a.tmps) = true then Oper.wp Try.prog o a W KK Q else E := by
  have hw : Region.wanted o (yielded ops a.tmps) = true := by simp [Region.wanted, hgd]
  rw [if_pos hw]
  obtain ⟨v', w', hr, h2, h3, h4⟩ := run_append_m ht hi hz0 hz1 hK hzs hby hown hq hl hnews h1 hn hbase
  unfold Oper.wp execOp
  simp only [ho, resolve, invoke, builtin, Sem.run_bind, Sem.run_pure, Result.andThen_ok, List.map_toArray, List.map_cons, List.map_nil, hs, hx, hty, hr]
  exact h v' w' h2 h3 h4

/-- What pieces hands back. -/
def PcOut (s : ByteArray) (w : World) (e : Ending) (w' : World) : Prop :=
  Below w.heap.size w w' ∧ ((∃ q, (tm s 0).2 = some q ∧ e = .returned (.tuple #[.slice none 0 0, .int .i64 (q : Nat), .bool false])) ∨
    ((tm s 0).2 = none ∧ ∃ A c ps, e = .returned (.tuple #[.slice A ps.length c, .int .i64 0, .bool true]) ∧ PcAt w' A ps ∧ pcNames ps = (tm s 0).1 ∧ ps.length ≤ 400001))

set_option maxHeartbeats 12800000 in
set_option maxRecDepth 100000 in
theorem pieces_any (s : ByteArray) (w : World) (hm : s.size ≤ 400000) : Calls Try.prog 45 #[.string s] w (PcOut s w) := by
  obtain ⟨iP, hiP, hzP0, hzP1, hzP2⟩ := info_parts info_piece
  have HIP := hide (And.intro hiP (And.intro hzP0 (And.intro hzP1 hzP2)))
  clear hiP hzP0 hzP1 hzP2
  have HPO : Hid ((∀ (q : Nat) (w' : World), (tm s 0).2 = some q → Below w.heap.size w w' → PcOut s w (.returned (.tuple #[.slice none 0 0, .int .i64 (q : Nat), .bool false])) w') ∧
      (∀ (A : Option Addr) (c : Nat) (ps : List Pc) (w' : World), (tm s 0).2 = none → PcAt w' A ps → pcNames ps = (tm s 0).1 → ps.length ≤ 400001 → Below w.heap.size w w' → PcOut s w (.returned (.tuple #[.slice A ps.length c, .int .i64 0, .bool true])) w')) :=
    hide ⟨fun q w' h hb => ⟨hb, .inl ⟨q, h, rfl⟩⟩, fun A c ps w' h1 h2 h3 h4 hb => ⟨hb, .inr ⟨h1, A, c, ps, rfl, h2, h3, h4⟩⟩⟩
  generalize PcOut s w = PO at *
  generalize hT : tm s 0 = R at HPO
  have HT := hide hT
  clear hT
  go_enter Try.func45, Try.ntmps45
  go_wp2
  go_loopw [2, 3, 5] (fun o p f wr => ∃ (i fr m : Nat) (ps : List Pc) (A : Option Addr) (c : Nat) (os : Array Obj) (n : Nat), i ≤ s.size ∧ fr ≤ i ∧ m ≤ i ∧ o = .slice A m c ∧ p = .int .i64 i ∧ f = .int .i64 fr ∧
    Hid (pcNames ps ++ (tm s i).1 = R.1) ∧ Hid ((tm s i).2 = R.2) ∧ Hid (OwnK 4 71 wr w.heap.size (.slice A m c) m (flatPc ps)) ∧ wr = plus w os n) (fun _ p _ _ => s.size - (intOf p).toNat)
  case atStart => exact ⟨0, 0, 0, [], none, 0, #[], _, Nat.zero_le _, Nat.zero_le _, Nat.zero_le _, rfl, rfl, rfl, hide (by rw [HT.out]; rfl), hide (by rw [HT.out]), hide OwnK.empty, plus_nil.symm⟩
  case round =>
    obtain ⟨i, fr, m, ps, A, c, os, n, hi, hfr, hmi, rfl, rfl, rfl, HNA, HNB, HS, rfl⟩ := hrel
    have i4 : (fr : Int) ≤ (i : Int) := by omega
    have i5 : (i : Int) ≤ (s.size : Int) := by omega
    by_cases hlt : i < s.size
    · have hlt2 : i < s.data.toList.length := by rw [← Lib.size_eq]; exact hlt
      have hx := fun (p : ByteArray) w => Try.hasPrefix_any (s.extract i s.size) p w
      rw [extract_drop] at hx
      have HX := hide hx
      clear hx
      cases e3 : has3 s.data.toList i with
      | true =>
        have HE3 := hide (show Lib.hasPrefix (s.data.toList.drop i) (⟨#[123, 123, 123]⟩ : ByteArray).data.toList = true from e3)
        have hle := has3_le e3
        rw [← Lib.size_eq] at hle
        have HTM := hide (tm_three hlt2 e3)
        clear e3 hlt2
        go_wp2_with (first | (go_at_call 46; refine (HX.out _ _).mono ?_; rintro e w' ⟨rfl, rfl⟩; first | rw [HE3.out] | rw [HE2.out]) | (at_builtin; refine wpList_append_m rfl (.tmp 20) (.tmp 27) rfl rfl Try.underlying44 HIP.out.1 HIP.out.2.1 HIP.out.2.2.1 (by decide) rfl (by have := HIP.out.2.2.2; omega) w.heap.size m 1 (.slice A m c) (flatPc ps) [.string (s.extract fr i ++ ⟨#[123, 123]⟩), .string ⟨#[]⟩, .string ⟨#[]⟩, .bool false] _ rfl (by repeat (first | with_reducible exact HS.out | with_reducible refine OwnK.alloc ?_ _ | with_reducible refine OwnK.plus ?_ _ _ | with_reducible refine OwnK.drew ?_)) (by decide) rfl (by intro u hu; simp only [List.mem_cons, List.not_mem_nil, or_false] at hu; rcases hu with rfl | rfl | rfl | rfl <;> rfl) rfl (newN_at (cs := [_, _, _, _]) (by simp only [World.size_alloc, plus_size, World.drew])) (by omega) (by simp only [World.size_alloc, plus_size, World.drew]; omega) ?_; intro v' w1 hown1 hgr1 hfr1; obtain ⟨os9, n9, rfl⟩ := grown_plus (L := w) (by repeat (first | exact Below.refl _ _ | refine bl_plus ?_ | refine bl_alloc ?_ _ | refine bl_drew ?_ | refine bl_drewN ?_ _)) hgr1 (fun q hq => (HS.out.lt q hq).1); obtain ⟨A1, c1, rfl, _⟩ := hown1.form; have HN := hide hown1; clear hown1 hgr1 hfr1))
        go_roundw
        case rel => exact ⟨i + 3, i + 3, m + 1, ps ++ [⟨s.extract fr i ++ ⟨#[123, 123]⟩, ⟨#[]⟩, ⟨#[]⟩, false⟩], A1, c1, os9, n9, by omega, Nat.le_refl _, by omega, rfl, by go_num, by go_num, hide (by rw [pcNames_append, pcNames_text, List.append_nil, ← HTM.out]; exact HNA.out), hide (by rw [← HTM.out]; exact HNB.out), hide (by rw [flatPc_append]; exact HN.out), rfl⟩
        case measure => simp [intOf]; omega
      | false =>
        have HE3 := hide (show Lib.hasPrefix (s.data.toList.drop i) (⟨#[123, 123, 123]⟩ : ByteArray).data.toList = false from e3)
        cases e2 : has2 s.data.toList i with
        | false =>
          have HE2 := hide (show Lib.hasPrefix (s.data.toList.drop i) (⟨#[123, 123]⟩ : ByteArray).data.toList = false from e2)
          have HTM := hide (tm_one hlt2 e3 e2)
          clear e3 e2 hlt2
          go_wp2_with (go_at_call 46; refine (HX.out _ _).mono ?_; rintro e w' ⟨rfl, rfl⟩; first | rw [HE3.out] | rw [HE2.out])
          go_roundw
          case rel => exact ⟨i + 1, fr, m, ps, A, c, os, n, by omega, by omega, by omega, rfl, by go_num, rfl, hide (by rw [← HTM.out]; exact HNA.out), hide (by rw [← HTM.out]; exact HNB.out), HS, rfl⟩
          case measure => simp [intOf]; omega
        | true =>
          have HE2 := hide (show Lib.hasPrefix (s.data.toList.drop i) (⟨#[123, 123]⟩ : ByteArray).data.toList = true from e2)
          have hle := has2_le e2
          rw [← Lib.size_eq] at hle
          have HF := hide (fun w => fieldAt_any s (i + 2) w hle hm)
          have hcast : ((i + 2 : Nat) : Int) = (i : Int) + 2 := by omega
          simp only [hcast] at HF
          clear hcast
          unfold FldOut at HF
          cases ef : (fld s.data.toList (i + 2)).2 with
          | false =>
            have HTM := hide (tm_bad hlt2 e3 e2 ef)
            simp only [ef] at HF
            generalize (fld s.data.toList (i + 2)).1 = q at *
            clear e3 e2 hlt2 ef
            go_wp2_with (first | (go_at_call 46; refine (HX.out _ _).mono ?_; rintro e w' ⟨rfl, rfl⟩; first | rw [HE3.out] | rw [HE2.out]) | (go_at_call 64; refine (HF.out _).mono ?_; rintro e w' ⟨name, other, has, rfl, hbl, hnm⟩; obtain ⟨os2, n2, rfl⟩ := below_plus hbl; have HNM := hide hnm; clear hbl hnm))
            exact HPO.out.1 q _ (by rw [← HNB.out, HTM.out]) (by repeat (first | exact Below.refl _ _ | refine bl_plus ?_ | refine bl_alloc ?_ _ | refine bl_drew ?_ | refine bl_drewN ?_ _))
          | true =>
            have hgt := fld_gt ef
            have hfl := (fld_le (d := s.data.toList) (at_ := i + 2) (by rw [← Lib.size_eq]; exact hle)).resolve_right (by rw [ef]; exact Bool.noConfusion)
            rw [← Lib.size_eq] at hfl
            have HTM := hide (tm_field hlt2 e3 e2 ef)
            have hne : runEnd nmB s.data.toList (i + 2) ≠ i + 2 := by
              intro h
              unfold fld at ef
              rw [if_pos h] at ef
              cases ef
            have hre := runEnd_ge (p := nmB) (d := s.data.toList) (i := i + 2)
            have hrl := runEnd_le (p := nmB) (d := s.data.toList) (i := i + 2) (by rw [← Lib.size_eq]; exact hle)
            have HSZ := hide (show (s.extract (i + 2) (runEnd nmB s.data.toList (i + 2))).size ≠ 0 by
              rw [ByteArray.size_extract]
              rw [← Lib.size_eq] at hrl
              omega)
            simp only [ef] at HF
            generalize (fld s.data.toList (i + 2)).1 = q at *
            generalize runEnd nmB s.data.toList (i + 2) = r at *
            clear e3 e2 hlt2 ef hne hre hrl
            go_upto_region 11 with (first | (go_at_call 46; refine (HX.out _ _).mono ?_; rintro e w' ⟨rfl, rfl⟩; first | rw [HE3.out] | rw [HE2.out]) | (go_at_call 64; refine (HF.out _).mono ?_; rintro e w' ⟨name, other, has, rfl, hbl, hnm⟩; obtain ⟨os2, n2, rfl⟩ := below_plus hbl; have HNM := hide hnm; clear hbl hnm))
            have hblk := Blk.new (plus (plus w os n) os2 n2) 71 #[.string ⟨#[]⟩, .string name, .string other, .bool has]
            rw [plus_size, plus_size] at hblk
            have hbw : Below w.heap.size w ((plus (plus w os n) os2 n2).alloc (.cells #[.string ⟨#[]⟩, .string name, .string other, .bool has] 71)) := (by repeat (first | exact Below.refl _ _ | refine bl_plus ?_ | refine bl_alloc ?_ _ | refine bl_drew ?_ | refine bl_drewN ?_ _))
            have hown := OwnK.alloc (OwnK.plus HS.out os2 n2) (.cells #[.string ⟨#[]⟩, .string name, .string other, .bool has] 71)
            have v0 := hblk.cell 0
            have v1 := hblk.cell 1
            have v2 := hblk.cell 2
            have v3 := hblk.cell 3
            have hg6 := hblk.lt
            have hVs := hbw.size
            have HBW := hide hbw
            have HOWN := hide hown
            clear hblk hbw hown
            generalize ((plus (plus w os n) os2 n2).alloc (.cells #[.string ⟨#[]⟩, .string name, .string other, .bool has] 71)) = V at *
            generalize w.heap.size + os.size + os2.size = g6 at *
            go_region_law (first
              | ((refine step_append_m rfl (.tmp 47) (.tmp 54) rfl rfl Try.underlying44 HIP.out.1 HIP.out.2.1 HIP.out.2.2.1 (by decide) rfl (by have := HIP.out.2.2.2; omega) w.heap.size m 2 (.slice A m c) (flatPc ps) [.string (s.extract fr i), .string ⟨#[]⟩, .string ⟨#[]⟩, .bool false, .string ⟨#[]⟩, .string name, .string other, .bool has] _ rfl (by repeat (first | with_reducible exact HOWN.out | with_reducible refine OwnK.alloc ?_ _ | with_reducible refine OwnK.plus ?_ _ _ | with_reducible refine OwnK.drew ?_)) (by decide) rfl (by intro u hu; simp only [List.mem_cons, List.not_mem_nil, or_false] at hu; rcases hu with rfl | rfl | rfl | rfl | rfl | rfl | rfl | rfl <;> rfl) rfl (newN_at (cs := [_, _, _, _, _, _, _, _]) (by simp only [World.size_alloc, plus_size, World.drew])) (by omega) (by simp only [World.size_alloc, plus_size, World.drew]; omega) ?_); (intro v' w1 hown1 hgr1 hfr1); (obtain ⟨os9, n9, rfl⟩ := grown_plus (L := w) (by repeat (first | exact HBW.out | exact Below.refl _ _ | refine bl_plus ?_ | refine bl_alloc ?_ _ | refine bl_drew ?_ | refine bl_drewN ?_ _)) hgr1 (fun q hq => (HS.out.lt q hq).1)); (obtain ⟨A1, c1, rfl, _⟩ := hown1.form); (have HN := hide hown1); (clear hown1 hgr1 hfr1))
              | fail)
            go_wp2
            go_roundw
            case rel => exact ⟨q, q, m + 2, ps ++ [⟨s.extract fr i, ⟨#[]⟩, ⟨#[]⟩, false⟩, ⟨⟨#[]⟩, name, other, has⟩], A1, c1, os9, n9, hfl, Nat.le_refl _, by omega, rfl, rfl, rfl, hide (by
              have hnm := HNM.out (by trivial)
              rw [pcNames_append, hnm, pcNames_field HSZ.out, ← HNA.out, HTM.out, List.append_assoc]
              rfl), hide (by rw [← HNB.out, HTM.out]), hide (by rw [flatPc_append]; exact HN.out), rfl⟩
            case measure => simp [intOf]; omega
    · obtain rfl : i = s.size := by omega
      have hend := tm_end (s := s) (i := s.size) (by rw [← Lib.size_eq]; exact Nat.le_refl _)
      have HEND := hide hend
      clear hend
      go_wp2_with (at_builtin; refine wpList_append_m rfl (.tmp 58) (.tmp 63) rfl rfl Try.underlying44 HIP.out.1 HIP.out.2.1 HIP.out.2.2.1 (by decide) rfl (by have := HIP.out.2.2.2; omega) w.heap.size m 1 (.slice A m c) (flatPc ps) [.string (s.extract fr s.size), .string ⟨#[]⟩, .string ⟨#[]⟩, .bool false] _ rfl (by repeat (first | with_reducible exact HS.out | with_reducible refine OwnK.alloc ?_ _ | with_reducible refine OwnK.plus ?_ _ _ | with_reducible refine OwnK.drew ?_)) (by decide) rfl (by intro u hu; simp only [List.mem_cons, List.not_mem_nil, or_false] at hu; rcases hu with rfl | rfl | rfl | rfl <;> rfl) rfl (newN_at (cs := [_, _, _, _]) (by simp only [World.size_alloc, plus_size, World.drew])) (by omega) (by simp only [World.size_alloc, plus_size, World.drew]; omega) ?_; intro v' w1 hown1 hgr1 hfr1; obtain ⟨os9, n9, rfl⟩ := grown_plus (L := w) (by repeat (first | exact Below.refl _ _ | refine bl_plus ?_ | refine bl_alloc ?_ _ | refine bl_drew ?_ | refine bl_drewN ?_ _)) hgr1 (fun q hq => (HS.out.lt q hq).1); obtain ⟨A1, c1, rfl, _⟩ := hown1.form; have HN := hide hown1; clear hown1 hgr1 hfr1)
      obtain ⟨hmn, hfl, hat⟩ := OwnK.pcs (ps := ps ++ [⟨s.extract fr s.size, ⟨#[]⟩, ⟨#[]⟩, false⟩]) (by rw [flatPc_append]; exact HN.out)
      rw [List.length_append, List.length_cons, List.length_nil] at hfl
      have hret := HPO.out.2 A1 c1 (ps ++ [⟨s.extract fr s.size, ⟨#[]⟩, ⟨#[]⟩, false⟩]) _ (by rw [← HNB.out, HEND.out]) hat (by rw [pcNames_append, pcNames_text, List.append_nil, ← HNA.out, HEND.out, List.append_nil]) (by rw [List.length_append, List.length_cons, List.length_nil]; omega) (by repeat (first | exact Below.refl _ _ | refine bl_plus ?_ | refine bl_alloc ?_ _ | refine bl_drew ?_ | refine bl_drewN ?_ _))
      rw [List.length_append, List.length_cons, List.length_nil, hfl] at hret
      exact hret

end Go.Proofs.Ytpbkidjbbhkjnaa
