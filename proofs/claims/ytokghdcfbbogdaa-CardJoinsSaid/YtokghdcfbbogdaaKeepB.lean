/-
  WALKS: Keep: the states by their names.
-/
import Derived.Test.YtokghdcfbbogdaaKeepA
import Derived.Test.YtokghdcfbbogdaaTodayC
import Derived.Test.YtokghdcfbbogdaaSimE
namespace Go.Proofs.Ytokghdcfbbogdaa
open Go.RowKit
attribute [local go_sem high] run_makeMap

/-- A card: its block, its number, its two sides. -/
structure Cd where
  bl : Int
  no : Int
  fr : ByteArray
  bk : ByteArray
def Cd.key (c : Cd) : Key := (c.bl, c.no)
def CdsAt (w : World) (A : Option Addr) (cs : List Cd) : Prop :=
  0 < cs.length → ∃ b off, A = some ⟨b, off, none⟩ ∧ b < w.heap.size ∧ ∀ j (h : j < cs.length),
    w.cell? ⟨b, off + j * 4, none⟩ = some (.int .i64 cs[j].bl) ∧ w.cell? ⟨b, off + j * 4 + 1, none⟩ = some (.int .i64 cs[j].no) ∧
    w.cell? ⟨b, off + j * 4 + 2, none⟩ = some (.string cs[j].fr) ∧ w.cell? ⟨b, off + j * 4 + 3, none⟩ = some (.string cs[j].bk)
theorem CdsAt.below {w w' : World} {A : Option Addr} {cs : List Cd} (h : CdsAt w A cs) (hb : Below w.heap.size w w') : CdsAt w' A cs := fun hl => by
  obtain ⟨b, off, hA, hlt, hc⟩ := h hl
  refine ⟨b, off, hA, Nat.lt_of_lt_of_le hlt hb.size, fun j hj => ?_⟩
  have hk : ∀ i, w'.cell? ⟨b, i, none⟩ = w.cell? ⟨b, i, none⟩ := fun i => hb.cell (p := ⟨b, i, none⟩) hlt
  obtain ⟨h0, h1, h2, h3⟩ := hc j hj
  exact ⟨(hk _).trans h0, (hk _).trans h1, (hk _).trans h2, (hk _).trans h3⟩

/-- A look-up with ok. -/
theorem lookup_ok_ents {t kt et : TypeId} (K : PairKey kt) (ht : Try.prog.underlying t = some (.map kt et)) {z : Value} (hz : ∀ w, (zeroValue et).run Try.prog w = .ok z w) (a b : Int) (r : Nat) (w : World) (kv : KV) (hr : w.heap[r]? = some (.map (ents kv) kv.length)) :
    (Instr.lookup t (.map (some r)) (nameVal a b) true).run Try.prog w = .ok (.tuple #[(kvFind (a, b) kv).getD z, .bool (kvFind (a, b) kv).isSome]) w := by
  unfold Instr.lookup
  simp only [Sem.run_bind, run_underlying ht, Result.andThen_ok]
  have hg : (getObj r).run Try.prog w = .ok (.map (ents kv) kv.length) w := by simp [getObj, Sem.run, hr]
  simp only [hg, Result.andThen_ok, Sem.run_bind, pure_bind]
  rw [K.check]
  simp only [Result.andThen_ok, ents]
  rw [findKey_ents K]
  cases kvFind (a, b) kv with
  | none => simp [hz]
  | some v => simp
theorem zero_state (w : World) : (zeroValue 24).run Try.prog w = .ok St.zero.val w := by
  exact Try.zeroValue24 w

/-- The world behind the first loop: the map of what is known, and blocks. -/
def Known (w : World) (r : Nat) (kv : KV) (W : World) : Prop := W.heap[r]? = some (.map (ents kv) kv.length) ∧ w.heap.size ≤ r ∧ Below w.heap.size w W

def KeepOut (r : (List St × List St) × Int) (w : World) (e : Ending) (w' : World) : Prop :=
  ∃ A c B c', e = .returned (.tuple #[.slice A r.1.1.length c, .slice B r.1.2.length c', .int .i64 r.2]) ∧ StsAt w' A r.1.1 ∧ StsAt w' B r.1.2 ∧ Below w.heap.size w w'
theorem keepOut_mk {A B : Option Addr} {n c n' c' : Nat} {d : Int} {xs ys : List St} {w w' : World} {e : Ending} (he : e = .returned (.tuple #[.slice A n c, .slice B n' c', .int .i64 d])) (hn : xs.length = n) (hn' : ys.length = n') (hs : StsAt w' A xs) (hi : StsAt w' B ys) (hb : Below w.heap.size w w') : KeepOut ((xs, ys), d) w e w' := by
  subst hn hn'; exact ⟨A, c, B, c', he, hs, hi, hb⟩
theorem keepOut_err {r : Int} {w w' : World} (hb : Below w.heap.size w w') : KeepOut (([], []), r) w (.returned (.tuple #[.slice none 0 0, .slice none 0 0, .int .i64 r])) w' := ⟨none, 0, none, 0, rfl, StsAt.nil, StsAt.nil, hb⟩

theorem two_heap (V : World) (kv : KV) (os : Array Obj) (n : Nat) (C1 C2 : Obj) : (((plus (V.alloc (.map (ents kv) kv.length)) os n).alloc C1).alloc C2).heap[V.heap.size]? = some (.map (ents kv) kv.length) := by
  rw [Below.heap_alloc _ _ _ (by simp only [World.size_alloc, plus_size]; omega), Below.heap_alloc _ _ _ (by simp only [World.size_alloc, plus_size]; omega), plus_heap (by rw [World.size_alloc]; omega)]
  exact heap_alloc_new V _
theorem two_old {V : World} {M : Obj} (os : Array Obj) (n : Nat) (C1 C2 : Obj) {r : Nat} (hr : r < V.heap.size) : (((plus (V.alloc M) os n).alloc C1).alloc C2).heap[r]? = V.heap[r]? := by
  rw [Below.heap_alloc _ _ _ (by simp only [World.size_alloc, plus_size]; omega), Below.heap_alloc _ _ _ (by simp only [World.size_alloc, plus_size]; omega), plus_heap (by rw [World.size_alloc]; omega), Below.heap_alloc _ _ _ hr]
theorem lookup_two {t kt et : TypeId} (K : PairKey kt) (ht : Try.prog.underlying t = some (.map kt et)) {z : Value} (hz : ∀ w, (zeroValue et).run Try.prog w = .ok z w) (a b : Int) (V : World) (kv : KV) (os : Array Obj) (n : Nat) (C1 C2 : Obj) :
    (Instr.lookup t (.map (some V.heap.size)) (nameVal a b) false).run Try.prog (((plus (V.alloc (.map (ents kv) kv.length)) os n).alloc C1).alloc C2) = .ok ((kvFind (a, b) kv).getD z) (((plus (V.alloc (.map (ents kv) kv.length)) os n).alloc C1).alloc C2) :=
  lookup_ents K ht hz a b _ _ kv (two_heap V kv os n C1 C2)
theorem update_two {t kt et : TypeId} (K : PairKey kt) (ht : Try.prog.underlying t = some (.map kt et)) (a b : Int) (v : Value) (V : World) (kv : KV) (os : Array Obj) (n : Nat) (C1 C2 : Obj) :
    (Instr.mapUpdate t (.map (some V.heap.size)) (nameVal a b) v).run Try.prog (((plus (V.alloc (.map (ents kv) kv.length)) os n).alloc C1).alloc C2) = .ok () (((plus (V.alloc (.map (ents (kvPut (a, b) v kv)) (kvPut (a, b) v kv).length)) os n).alloc C1).alloc C2) :=
  (update_ents K ht a b v _ kv _ (two_heap V kv os n C1 C2)).trans (by
    rw [alloc_setMap_old (by simp only [World.size_alloc, plus_size]; omega), alloc_setMap_old (by simp only [World.size_alloc, plus_size]; omega), plus_setMap (by rw [World.size_alloc]; omega), alloc_setMap_new])
theorem lookup_ok_two {t kt et : TypeId} (K : PairKey kt) (ht : Try.prog.underlying t = some (.map kt et)) {z : Value} (hz : ∀ w, (zeroValue et).run Try.prog w = .ok z w) (a b : Int) (V : World) (M : Obj) (kn : KV) (r : Nat) (hr : V.heap[r]? = some (.map (ents kn) kn.length)) (hlt : r < V.heap.size) (os : Array Obj) (n : Nat) (C1 C2 : Obj) :
    (Instr.lookup t (.map (some r)) (nameVal a b) true).run Try.prog (((plus (V.alloc M) os n).alloc C1).alloc C2) = .ok (.tuple #[(kvFind (a, b) kn).getD z, .bool (kvFind (a, b) kn).isSome]) (((plus (V.alloc M) os n).alloc C1).alloc C2) :=
  lookup_ok_ents K ht hz a b _ _ kn ((two_old os n C1 C2 hlt).trans hr)
theorem new_cells9 {w : World} {t : TypeId} {x : St} {g : Nat} (hg : g = w.heap.size) : ∀ j u, (stCells x)[j]? = some u → (w.alloc (.cells #[.int .i64 x.bl, .int .i64 x.no, .int .i64 x.st, .int .i64 x.ea, .int .i64 x.du, .int .i64 x.la, .int .i64 x.ti, .int .i64 x.lp, .int .i64 x.bu] t)).cell? ((⟨g, 0, none⟩ : Addr).add j) = some u := by
  subst hg
  intro j u hj
  have hadd : (⟨w.heap.size, 0, none⟩ : Addr).add j = ⟨w.heap.size, j, none⟩ := by unfold Addr.add; split <;> simp_all
  rw [hadd, (Blk.new w t _).cell j]
  simpa [stCells] using hj
theorem OwnK.sts {w : World} {base n : Nat} {A : Option Addr} {c m : Nat} {xs : List St} (h : OwnK 9 24 w base (.slice A m c) n (flat xs)) : m = n ∧ xs.length = n ∧ StsAt w A xs := by
  obtain ⟨hl, A', c', hv, h1, h2, h3⟩ := h
  injection hv with e1 e2 e3
  subst e1 e2 e3
  rw [flat_len] at hl
  have hn : xs.length = m := by omega
  refine ⟨rfl, hn, fun hp => ?_⟩
  rcases h3 with ⟨_, h0, _⟩ | ⟨g, cur, hA, hg, hb, h4, h5⟩
  · omega
  · refine ⟨g, 0, hA, (Array.getElem?_eq_some_iff.1 hb).1, fun j hj => ?_⟩
    have hc : ∀ i, i < 9 → w.cell? ⟨g, 0 + j * 9 + i, none⟩ = (stCells xs[j])[i]? := fun i hi => by
      rw [Nat.zero_add, cell_of_row w g _ cur _ (0, 0) hb, ← flat_get xs j i hj hi, ← h5, List.getElem?_take_of_lt (by omega)]; simp
    exact ⟨hc 0 (by omega), hc 1 (by omega), hc 2 (by omega), hc 3 (by omega), hc 4 (by omega), hc 5 (by omega), hc 6 (by omega), hc 7 (by omega), hc 8 (by omega)⟩
theorem flat_snoc (xs : List St) (x : St) : flat (xs ++ [x]) = flat xs ++ stCells x := by simp [flat]

set_option maxHeartbeats 12800000 in
set_option maxRecDepth 100000 in
theorem keepF_ok (A B : Option Addr) (c c2 : Nat) (xs : List St) (cs : List Cd) (w : World) (hA : StsAt w A xs) (hB : CdsAt w B cs) (h : statesErr xs = 0) (hcl : cs.length ≤ 5000) :
    Calls Try.prog 46 #[.slice A xs.length c, .slice B cs.length c2] w (KeepOut (keepR xs (keepGo xs (cs.map Cd.key) [] [])) w) := by
  have hl := len_of_statesErr h
  generalize hR : keepGo xs (cs.map Cd.key) [] [] = R
  have HR := hide hR
  have hck := fun w h => checkStates_any A c xs w h
  rw [h] at hck
  have hkf := hide (fun key => known_find h key)
  have H1 := hide hck
  have HA := hide hA
  have HB := hide hB
  have hcl' : ¬ (5000 : Int) < (cs.length : Int) := by omega
  obtain ⟨iS, hiS, hzS0, hzS1, hzS2⟩ := info_parts info_st
  have HIS := hide (And.intro hiS (And.intro hzS0 (And.intro hzS1 hzS2)))
  clear hiS hzS0 hzS1 hzS2
  clear hck hA hB hR h
  go_enter Try.func46, Try.ntmps46
  go_upto_region 6 with (go_at_call 48; refine (H1.out _ HA.out).mono ?_; rintro e w' ⟨rfl, hb⟩; obtain ⟨os1, n1, rfl⟩ := below_plus hb; clear hb)
  have hW : Below w.heap.size w (plus w os1 n1) := bl_plus (Below.refl _ _)
  generalize plus w os1 n1 = W0 at hW ⊢
  have HW := hide hW
  clear hW
  go_wp2
  go_loopw [32] (fun i wr => ∃ (k : Nat) (os : Array Obj) (n : Nat), k ≤ xs.length ∧ i = .int .i64 k ∧ wr = plus (W0.alloc (.map (ents (knownKV xs k)) (knownKV xs k).length)) os n) (fun i _ => xs.length - (intOf i).toNat)
  case atStart => exact ⟨0, #[], _, Nat.zero_le _, rfl, plus_nil.symm⟩
  case round =>
    obtain ⟨k, os, n, hk, rfl, rfl⟩ := hrel
    by_cases hlt : k < xs.length
    · obtain ⟨b, off, rfl, hb, hcell⟩ := HA.out (by omega)
      have hb0 : b < W0.heap.size := by have := HW.out.size; omega
      have hrk : xs[k]? = some xs[k] := List.getElem?_eq_getElem hlt
      have hcc : StCells W0 b (off + k * 9) xs[k] := (hcell k hlt).keep fun i => HW.out.cell (p := ⟨b, i, none⟩) hb
      clear hcell
      generalize xs[k] = x at hcc hrk
      obtain ⟨c0, c1, c2', c3, c4, c5, c6, c7, c8⟩ := hcc
      have hup := fun os3 n3 => update_round pair_name Try.underlying96 x.bl x.no x.val W0 (knownKV xs k) os n (.cells #[.int .i64 x.bl, .int .i64 x.no, .int .i64 x.st, .int .i64 x.ea, .int .i64 x.du, .int .i64 x.la, .int .i64 x.ti, .int .i64 x.lp, .int .i64 x.bu] 24) os3 n3
      rw [← knownKV_succ hrk] at hup
      have hsn := fun w => stateName_any x w
      simp only [St.val, nameVal] at hup hsn
      have HSN := hide hsn
      clear hsn hrk
      go_upto_region 10 with (fail)
      go_region_with (go_at_call 54; refine (HSN.out _).mono ?_; rintro e w' ⟨rfl, hb⟩; obtain ⟨os3, n3, rfl⟩ := below_plus hb; clear hb)
      all_goals go_wp2
      all_goals
        go_roundw
        case rel => exact ⟨k + 1, _, _, hlt, by go_num, by rw [plus_alloc, plus_plus]⟩
        case measure => simp [intOf]; omega
    · have hkl : k = xs.length := by omega
      subst hkl
      have hr1 : (plus (W0.alloc (.map (ents (knownKV xs xs.length)) (knownKV xs xs.length).length)) os n).heap[W0.heap.size]? = some (.map (ents (knownKV xs xs.length)) (knownKV xs xs.length).length) := by
        rw [plus_heap (by rw [World.size_alloc]; omega)]; exact heap_alloc_new W0 _
      have hrl : W0.heap.size < (plus (W0.alloc (.map (ents (knownKV xs xs.length)) (knownKV xs xs.length).length)) os n).heap.size := by rw [plus_size, World.size_alloc]; omega
      have hV : Below w.heap.size w (plus (W0.alloc (.map (ents (knownKV xs xs.length)) (knownKV xs xs.length).length)) os n) := by repeat (first | exact HW.out | exact Below.refl _ _ | refine bl_plus ?_ | refine bl_alloc ?_ _ | refine bl_drew ?_)
      generalize (plus (W0.alloc (.map (ents (knownKV xs xs.length)) (knownKV xs xs.length).length)) os n) = V at hr1 hrl hV ⊢
      generalize W0.heap.size = r1 at hr1 hrl ⊢
      have HV := hide hV
      have HR1 := hide hr1
      clear hV hr1 HW
      go_wp2
      go_loopw [12, 44] (fun v i wr => ∃ (k : Nat) (kv : KV) (out : List St) (os : Array Obj) (n : Nat), k ≤ cs.length ∧ i = .int .i64 k ∧ Hid (keepGo xs ((cs.map Cd.key).drop k) kv out = R ∧ kvSet kv) ∧ OwnK 9 24 wr (V.heap.size + 1) v k (flat out) ∧ wr = plus (V.alloc (.map (ents kv) kv.length)) os n)
        (fun _ i _ => cs.length - (intOf i).toNat)
      case atStart => exact ⟨0, [], [], #[], _, Nat.zero_le _, rfl, ⟨HR.out, fun p hp => by cases hp⟩, OwnK.empty, plus_nil.symm⟩
      case round =>
        obtain ⟨k, kv, out, os, n, hk, rfl, HI, ho, rfl⟩ := hrel
        by_cases hlt : k < cs.length
        · obtain ⟨i1, i2⟩ := HI.out
          rw [drop_cons (cs.map Cd.key) k (by simpa using hlt), List.getElem_map] at i1
          obtain ⟨b, off, rfl, hb, hcell⟩ := HB.out (by omega)
          have hb0 : b < V.heap.size := by have := HV.out.size; omega
          obtain ⟨d0, d1, d2, d3⟩ := hcell k hlt
          have c0 := (HV.out.cell (p := ⟨b, _, none⟩) hb).trans d0
          have c1 := (HV.out.cell (p := ⟨b, _, none⟩) hb).trans d1
          have c2' := (HV.out.cell (p := ⟨b, _, none⟩) hb).trans d2
          have c3 := (HV.out.cell (p := ⟨b, _, none⟩) hb).trans d3
          clear d0 d1 d2 d3 hcell HI
          generalize cs[k] = cd at c0 c1 c2' c3 i1
          obtain ⟨bl, no, fr, bk⟩ := cd
          simp only [Cd.key] at c0 c1 c2' c3 i1
          have I2 := hide i2
          cases hfar : cardFar (bl, no) with
          | true =>
            rw [keepGo_far hfar] at i1
            have HI1 := hide i1
            clear i1 i2 ho
            have hx : (bl < 1 ∨ 1000000 < bl) ∨ ((1 ≤ bl ∧ bl ≤ 1000000) ∧ (no < 1 ∨ 20 < no)) := by
              unfold cardFar at hfar; simp only [decide_eq_true_eq] at hfar; omega
            clear hfar
            rcases hx with hx | ⟨⟨hx1, hx2⟩, hx⟩
            · have HX := hide (fun w => outside_yes bl 1 1000000 w hx)
              clear hx
              go_wp2_with (go_at_call 61; refine (HX.out _).mono ?_; rintro e w' ⟨rfl, rfl⟩)
              go_returns
              rw [← HI1.out]
              exact keepOut_err (by repeat (first | exact HV.out | exact Below.refl _ _ | refine bl_plus ?_ | refine bl_alloc ?_ _ | refine bl_drew ?_))
            · have HX := hide (fun w => outside_no bl 1 1000000 w hx1 hx2)
              have HX2 := hide (fun w => outside_yes no 1 20 w hx)
              clear hx hx1 hx2
              go_wp2_with (first | (go_at_call_of 61 (Value.int IntKind.i64 1000000); refine (HX.out _).mono ?_; rintro e w' ⟨rfl, rfl⟩) | (go_at_call_of 61 (Value.int IntKind.i64 20); refine (HX2.out _).mono ?_; rintro e w' ⟨rfl, rfl⟩))
              go_returns
              rw [← HI1.out]
              exact keepOut_err (by repeat (first | exact HV.out | exact Below.refl _ _ | refine bl_plus ?_ | refine bl_alloc ?_ _ | refine bl_drew ?_))
          | false =>
            have hx : (1 ≤ bl ∧ bl ≤ 1000000) ∧ (1 ≤ no ∧ no ≤ 20) := by
              unfold cardFar at hfar; simp only [decide_eq_false_iff_not] at hfar; omega
            have HX := hide (fun w => outside_no bl 1 1000000 w hx.1.1 hx.1.2)
            have HX2 := hide (fun w => outside_no no 1 20 w hx.2.1 hx.2.2)
            have hlk := lookup_two pair_name Try.underlying89 zero_bool bl no V kv os n (.cells #[.int .i64 bl, .int .i64 no, .string fr, .string bk] 108) (.cells #[.int .i64 bl, .int .i64 no] 77)
            rw [kvSet_find i2] at hlk
            simp only [nameVal] at hlk
            clear hx
            cases hhas : kvHas (bl, no) kv with
            | true =>
              rw [keepGo_twice hfar hhas] at i1
              rw [hhas] at hlk
              have HI1 := hide i1
              clear i1 i2 ho hfar hhas
              go_wp2_with (first | (go_at_call_of 61 (Value.int IntKind.i64 1000000); refine (HX.out _).mono ?_; rintro e w' ⟨rfl, rfl⟩) | (go_at_call_of 61 (Value.int IntKind.i64 20); refine (HX2.out _).mono ?_; rintro e w' ⟨rfl, rfl⟩))
              go_returns
              rw [← HI1.out]
              exact keepOut_err (by repeat (first | exact HV.out | exact Below.refl _ _ | refine bl_plus ?_ | refine bl_alloc ?_ _ | refine bl_drew ?_))
            | false =>
              rw [keepGo_step hfar hhas] at i1
              rw [hhas] at hlk
              have hup := update_two pair_name Try.underlying89 bl no (.bool true) V kv os n (.cells #[.int .i64 bl, .int .i64 no, .string fr, .string bk] 108) (.cells #[.int .i64 bl, .int .i64 no] 77)
              have hlk2 := lookup_ok_two pair_name Try.underlying96 zero_state bl no V (.map (ents (kvPut (bl, no) (.bool true) kv)) (kvPut (bl, no) (.bool true) kv).length) (knownKV xs xs.length) r1 HR1.out hrl os n (.cells #[.int .i64 bl, .int .i64 no, .string fr, .string bk] 108) (.cells #[.int .i64 bl, .int .i64 no] 77)
              rw [hkf.out (bl, no)] at hlk2
              obtain ⟨A5, c5, rfl, _⟩ := ho.form
              have HO : Hid (OwnK 9 24 (plus (V.alloc (.map (ents (kvPut (bl, no) (.bool true) kv)) (kvPut (bl, no) (.bool true) kv).length)) os n) (V.heap.size + 1) (.slice A5 k c5) k (flat out)) :=
                ho.kept fun q hq => plus_heap_swap (by simp only [World.size_alloc]) (by have := (ho.lt q hq).1; simp only [World.size_alloc]; omega)
              have I3 := hide (kvSet_put (k := (bl, no)) i2)
              have HI1 := hide i1
              simp only [nameVal] at hup hlk2
              clear i1 i2 ho hfar hhas I2
              cases hf : xs.find? (named (bl, no)) with
              | some y =>
                have hp : pickName xs (bl, no) = y := by unfold pickName; rw [hf]; rfl
                rw [hp] at HI1
                rw [hf] at hlk2
                simp only [Option.map_some, Option.getD_some, Option.isSome_some, St.val] at hlk2
                clear hf hp
                go_wp2_with (first | (go_at_call_of 61 (Value.int IntKind.i64 1000000); refine (HX.out _).mono ?_; rintro e w' ⟨rfl, rfl⟩) | (go_at_call_of 61 (Value.int IntKind.i64 20); refine (HX2.out _).mono ?_; rintro e w' ⟨rfl, rfl⟩) | (at_builtin; go_loud (refine wpList_append_k rfl (.tmp 79) (.tmp 81) rfl rfl Try.underlying36 HIS.out.1 HIS.out.2.1 HIS.out.2.2.1 (by decide) rfl (by have := HIS.out.2.2.2; omega) (V.heap.size + 1) k _ (flat out) (stCells y) _ rfl ((((HO.out.alloc _).alloc _).alloc _).alloc _) rfl (by intro u hu; simp only [stCells, List.mem_cons, List.not_mem_nil, or_false] at hu; rcases hu with rfl | rfl | rfl | rfl | rfl | rfl | rfl | rfl | rfl <;> rfl) rfl (new_cells9 (by simp only [plus_size, World.size_alloc])) (by omega) (by simp only [World.size_alloc, plus_size]; omega) ?_; intro v' w1 hown1 hgr1 hfr1; obtain ⟨os9, n9, rfl⟩ := grown_plus (L := (V.alloc (.map (ents (kvPut (bl, no) (.bool true) kv)) (kvPut (bl, no) (.bool true) kv).length))) (by repeat (first | exact Below.refl _ _ | refine bl_plus ?_ | refine bl_alloc ?_ _ | refine bl_drew ?_)) hgr1 (fun q hq => by have := (HO.out.lt q hq).1; simp only [World.size_alloc]; omega); have HN := hide hown1; clear hown1 hgr1 hfr1)))
                go_roundw
                case rel => exact ⟨k + 1, _, out ++ [y], _, _, hlt, by go_num, ⟨HI1.out, I3.out⟩, by rw [flat_snoc]; exact HN.out, rfl⟩
                case measure => simp [intOf]; omega
              | none =>
                have hp : pickName xs (bl, no) = St.fresh bl no := by unfold pickName; rw [hf]; rfl
                rw [hp] at HI1
                rw [hf] at hlk2
                simp only [Option.map_none, Option.getD_none, Option.isSome_none, St.val, St.zero] at hlk2
                have hfr := fun w => fresh_any bl no w
                generalize St.fresh bl no = y at hfr HI1
                simp only [St.val] at hfr
                have HFR := hide hfr
                clear hf hp hfr
                go_wp2_with (first | (go_at_call_of 61 (Value.int IntKind.i64 1000000); refine (HX.out _).mono ?_; rintro e w' ⟨rfl, rfl⟩) | (go_at_call_of 61 (Value.int IntKind.i64 20); refine (HX2.out _).mono ?_; rintro e w' ⟨rfl, rfl⟩) | (go_at_call 85; refine (HFR.out _).mono ?_; rintro e w' ⟨rfl, hb⟩; obtain ⟨os3, n3, rfl⟩ := below_plus hb; clear hb) | (at_builtin; go_loud (refine wpList_append_k rfl (.tmp 79) (.tmp 81) rfl rfl Try.underlying36 HIS.out.1 HIS.out.2.1 HIS.out.2.2.1 (by decide) rfl (by have := HIS.out.2.2.2; omega) (V.heap.size + 1) k _ (flat out) (stCells y) _ rfl (((((HO.out.alloc _).alloc _).alloc _).plus _ _).alloc _) rfl (by intro u hu; simp only [stCells, List.mem_cons, List.not_mem_nil, or_false] at hu; rcases hu with rfl | rfl | rfl | rfl | rfl | rfl | rfl | rfl | rfl <;> rfl) rfl (new_cells9 (by simp only [plus_size, World.size_alloc])) (by omega) (by simp only [World.size_alloc, plus_size]; omega) ?_; intro v' w1 hown1 hgr1 hfr1; obtain ⟨os9, n9, rfl⟩ := grown_plus (L := (V.alloc (.map (ents (kvPut (bl, no) (.bool true) kv)) (kvPut (bl, no) (.bool true) kv).length))) (by repeat (first | exact Below.refl _ _ | refine bl_plus ?_ | refine bl_alloc ?_ _ | refine bl_drew ?_)) hgr1 (fun q hq => by have := (HO.out.lt q hq).1; simp only [World.size_alloc]; omega); have HN := hide hown1; clear hown1 hgr1 hfr1)))
                go_roundw
                case rel => exact ⟨k + 1, _, out ++ [y], _, _, hlt, by go_num, ⟨HI1.out, I3.out⟩, by rw [flat_snoc]; exact HN.out, rfl⟩
                case measure => simp [intOf]; omega
        · have hkl : k = cs.length := by omega
          subst hkl
          obtain ⟨i1, i2⟩ := HI.out
          rw [show List.drop cs.length (cs.map Cd.key) = [] from by simp] at i1
          simp only [keepGo] at i1
          obtain ⟨A5, c5, rfl, hc5⟩ := ho.form
          obtain ⟨_, hol, _⟩ := ho.sts
          have HOL := hide hol
          have HI1 := hide i1
          have I2 := hide i2
          have HO := hide ho
          clear i1 i2 ho hol HI
          go_wp2_with (go_at_call 78; refine (sortSts_any 86 (enters_of Try.func86 (by kernel_rfl) rfl) (fun x y W => keepLess_grow x y W) (V.heap.size + 1) c5 cs.length A5 out _ HO.out (by omega) (by simp only [plus_size, World.size_alloc]; omega)).mono ?_; rintro e w' ⟨rfl, hb, hs, _⟩; obtain ⟨os4, n4, rfl⟩ := below_plus (W := (V.alloc (.map (ents kv) kv.length))) ((bl_plus (Below.refl _ _)).trans (by rw [World.size_alloc]; exact hb)); have HS := hide hs; clear hb hs)
          clear HO
          go_loopw [13, 88] (fun v2 i wr => ∃ (k : Nat) (os : Array Obj) (n : Nat), k ≤ xs.length ∧ i = .int .i64 k ∧ Hid (Apart v2 (.slice A5 cs.length c5)) ∧ Hid (OwnK 9 24 wr (V.heap.size + 1) v2 (goneOf kv (xs.take k)).length (flat (goneOf kv (xs.take k))) ∧ OwnK 9 24 wr (V.heap.size + 1) (.slice A5 cs.length c5) cs.length (flat (sortSt out))) ∧ wr = plus (V.alloc (.map (ents kv) kv.length)) os n)
            (fun _ i _ => xs.length - (intOf i).toNat)
          case atStart => exact ⟨0, _, _, Nat.zero_le _, rfl, (fun g hg => by simp [Value.ownBlock] at hg), ⟨OwnK.empty, HS.out⟩, rfl⟩
          case round =>
            clear HS
            obtain ⟨k, os, n, hk, rfl, AP, HK, rfl⟩ := hrel
            by_cases hlt : k < xs.length
            · have hgt := goneOf_take kv xs k hlt
              have hgl := goneOf_len kv (xs.take k)
              have hgl2 : (goneOf kv (xs.take k)).length ≤ 5000 := by rw [List.length_take] at hgl; omega
              obtain ⟨b, off, rfl, hb, hcell⟩ := HA.out (by omega)
              have hb0 : b < V.heap.size := by have := HV.out.size; omega
              have hcc : StCells V b (off + k * 9) xs[k] := (hcell k hlt).keep fun i => HV.out.cell (p := ⟨b, i, none⟩) hb
              clear hcell hgl
              generalize xs[k] = x at hcc hgt
              obtain ⟨c0, c1, c2', c3, c4, c5', c6, c7, c8⟩ := hcc
              have hlk := fun os3 n3 => lookup_round pair_name Try.underlying89 zero_bool x.bl x.no V kv os n (.cells #[.int .i64 x.bl, .int .i64 x.no, .int .i64 x.st, .int .i64 x.ea, .int .i64 x.du, .int .i64 x.la, .int .i64 x.ti, .int .i64 x.lp, .int .i64 x.bu] 24) os3 n3
              rw [kvSet_find I2.out] at hlk
              have hsn := fun w => stateName_any x w
              simp only [St.val, nameVal] at hlk hsn
              have HSN := hide hsn
              obtain ⟨o1, o2⟩ := HK.out
              obtain ⟨A6, c6', rfl, _⟩ := o1.form
              have O1 := hide o1
              have O2 := hide o2
              clear hsn o1 o2 HK
              cases hhas : kvHas (x.bl, x.no) kv with
              | true =>
                rw [hhas] at hlk hgt
                rw [if_pos rfl] at hgt
                have HGT := hide hgt
                clear hgt hhas
                go_wp2_with (go_at_call 54; refine (HSN.out _).mono ?_; rintro e w' ⟨rfl, hb⟩; obtain ⟨os3, n3, rfl⟩ := below_plus hb; clear hb)
                go_roundw
                case rel => exact ⟨k + 1, _, _, hlt, by go_num, AP, ⟨by rw [HGT.out]; exact (O1.out.alloc _).plus _ _, (O2.out.alloc _).plus _ _⟩, by rw [plus_alloc, plus_plus]⟩
                case measure => simp [intOf]; omega
              | false =>
                rw [hhas] at hlk hgt
                rw [if_neg (by simp)] at hgt
                have HGT := hide hgt
                clear hgt hhas
                go_wp2_with (first | (go_at_call 54; refine (HSN.out _).mono ?_; rintro e w' ⟨rfl, hb⟩; obtain ⟨os3, n3, rfl⟩ := below_plus hb; clear hb) | (at_builtin; go_loud (refine wpList_append_k rfl (.tmp 97) (.tmp 99) rfl rfl Try.underlying36 HIS.out.1 HIS.out.2.1 HIS.out.2.2.1 (by decide) rfl (by have := HIS.out.2.2.2; omega) (V.heap.size + 1) _ _ (flat (goneOf kv (xs.take k))) (stCells x) _ rfl (((O1.out.alloc _).plus _ _).alloc _) rfl (by intro u hu; simp only [stCells, List.mem_cons, List.not_mem_nil, or_false] at hu; rcases hu with rfl | rfl | rfl | rfl | rfl | rfl | rfl | rfl | rfl <;> rfl) rfl (new_cells9 (by simp only [plus_size, World.size_alloc])) (by omega) (by simp only [World.size_alloc, plus_size]; omega) ?_; intro v' w1 hown1 hgr1 hfr1; obtain ⟨os9, n9, rfl, P1, P2⟩ := after_append_one (B := (V.alloc (.map (ents kv) kv.length))) (by simp only [World.size_alloc]) (by repeat (first | exact Below.refl _ _ | refine bl_plus ?_ | refine bl_alloc ?_ _ | refine bl_drew ?_)) (((O2.out.alloc _).plus _ _).alloc _) hgr1 (fun q hq => (O1.out.lt q hq).1) hfr1 AP.out; have PP := hide (And.intro P1 P2); have HN := hide hown1; clear P1 P2 hown1 hgr1 hfr1)))
                go_roundw
                case rel => exact ⟨k + 1, _, _, hlt, by go_num, PP.out.2, ⟨by rw [HGT.out, flat_snoc, List.length_append]; exact HN.out, PP.out.1⟩, rfl⟩
                case measure => simp [intOf]; omega
            · have hkl : k = xs.length := by omega
              subst hkl
              obtain ⟨o1, o2⟩ := HK.out
              rw [List.take_length] at o1
              obtain ⟨A6, c6', rfl, hc6⟩ := o1.form
              obtain ⟨_, _, s1⟩ := o1.sts
              obtain ⟨_, sl2, s2⟩ := o2.sts
              have S1 := hide s1
              have S2 := hide s2
              have SL2 := hide sl2
              clear o1 o2 HK s1 s2 sl2
              go_wp2_with (go_at_call 63; refine (clipSts_any _ _ _ _ (by assumption)).mono ?_; rintro e w' ⟨rfl, rfl⟩)
              go_returns
              rw [← HI1.out]
              show KeepOut ((sortSt out, goneOf kv xs), 0) w _ _
              exact keepOut_mk rfl SL2.out rfl S2.out S1.out (by repeat (first | exact HV.out | exact Below.refl _ _ | refine bl_plus ?_ | refine bl_alloc ?_ _ | refine bl_drew ?_))

end Go.Proofs.Ytokghdcfbbogdaa
