/-
  WALKS: the reference's Keep.
-/
import Derived.Test.YtokghdcfbbogdaaKeepC
namespace Go.Proofs.Ytokghdcfbbogdaa
open Go.RowKit
attribute [local go_sem high] run_makeMap

theorem three_heap (V : World) (kv : KV) (os os3 : Array Obj) (n n3 : Nat) (C0 C1 C2 : Obj) : (((plus ((plus (V.alloc (.map (ents kv) kv.length)) os n).alloc C0) os3 n3).alloc C1).alloc C2).heap[V.heap.size]? = some (.map (ents kv) kv.length) := by
  rw [Below.heap_alloc _ _ _ (by simp only [World.size_alloc, plus_size]; omega), Below.heap_alloc _ _ _ (by simp only [World.size_alloc, plus_size]; omega), plus_heap (by simp only [World.size_alloc, plus_size]; omega), Below.heap_alloc _ _ _ (by simp only [World.size_alloc, plus_size]; omega), plus_heap (by rw [World.size_alloc]; omega)]
  exact heap_alloc_new V _
theorem lookup_three {t kt et : TypeId} (K : PairKey kt) (ht : Try.prog.underlying t = some (.map kt et)) {z : Value} (hz : ∀ w, (zeroValue et).run Try.prog w = .ok z w) (a b : Int) (V : World) (kv : KV) (os os3 : Array Obj) (n n3 : Nat) (C0 C1 C2 : Obj) :
    (Instr.lookup t (.map (some V.heap.size)) (nameVal a b) false).run Try.prog (((plus ((plus (V.alloc (.map (ents kv) kv.length)) os n).alloc C0) os3 n3).alloc C1).alloc C2) = .ok ((kvFind (a, b) kv).getD z) (((plus ((plus (V.alloc (.map (ents kv) kv.length)) os n).alloc C0) os3 n3).alloc C1).alloc C2) :=
  lookup_ents K ht hz a b _ _ kv (three_heap V kv os os3 n n3 C0 C1 C2)
theorem update_three {t kt et : TypeId} (K : PairKey kt) (ht : Try.prog.underlying t = some (.map kt et)) (a b : Int) (v : Value) (V : World) (kv : KV) (os os3 : Array Obj) (n n3 : Nat) (C0 C1 C2 : Obj) :
    (Instr.mapUpdate t (.map (some V.heap.size)) (nameVal a b) v).run Try.prog (((plus ((plus (V.alloc (.map (ents kv) kv.length)) os n).alloc C0) os3 n3).alloc C1).alloc C2) = .ok () (((plus ((plus (V.alloc (.map (ents (kvPut (a, b) v kv)) (kvPut (a, b) v kv).length)) os n).alloc C0) os3 n3).alloc C1).alloc C2) :=
  (update_ents K ht a b v _ kv _ (three_heap V kv os os3 n n3 C0 C1 C2)).trans (by
    rw [alloc_setMap_old (by simp only [World.size_alloc, plus_size]; omega), alloc_setMap_old (by simp only [World.size_alloc, plus_size]; omega), plus_setMap (by simp only [World.size_alloc, plus_size]; omega), alloc_setMap_old (by simp only [World.size_alloc, plus_size]; omega), plus_setMap (by rw [World.size_alloc]; omega), alloc_setMap_new])

theorem lookup_one {t kt et : TypeId} (K : PairKey kt) (ht : Try.prog.underlying t = some (.map kt et)) {z : Value} (hz : ∀ w, (zeroValue et).run Try.prog w = .ok z w) (a b : Int) (V : World) (kv : KV) (os : Array Obj) (n : Nat) (C : Obj) :
    (Instr.lookup t (.map (some V.heap.size)) (nameVal a b) false).run Try.prog ((plus (V.alloc (.map (ents kv) kv.length)) os n).alloc C) = .ok ((kvFind (a, b) kv).getD z) ((plus (V.alloc (.map (ents kv) kv.length)) os n).alloc C) :=
  lookup_ents K ht hz a b _ _ kv (by
    rw [Below.heap_alloc _ _ _ (by simp only [World.size_alloc, plus_size]; omega), plus_heap (by rw [World.size_alloc]; omega)]
    exact heap_alloc_new V _)
theorem new_err (k : Key) : (St.new k.1 k.2).2 = if cardFar k then 2 else 0 := by
  rw [← fresh_err]
  unfold St.new
  split <;> simp_all
theorem new_val (k : Key) (h : cardFar k = false) : St.new k.1 k.2 = (St.fresh k.1 k.2, 0) := by
  have := fresh_err k
  rw [h] at this
  unfold St.new
  simp at this
  simp [this]

theorem stCells_new {W : World} {g : Nat} {y : St} {C : Obj} (hg : g = W.heap.size) : StCells ((W.alloc (.cells #[.int .i64 y.bl, .int .i64 y.no, .int .i64 y.st, .int .i64 y.ea, .int .i64 y.du, .int .i64 y.la, .int .i64 y.ti, .int .i64 y.lp, .int .i64 y.bu] 24)).alloc C) g 0 y ∧ g < ((W.alloc (.cells #[.int .i64 y.bl, .int .i64 y.no, .int .i64 y.st, .int .i64 y.ea, .int .i64 y.du, .int .i64 y.la, .int .i64 y.ti, .int .i64 y.lp, .int .i64 y.bu] 24)).alloc C).heap.size := by
  subst hg
  obtain ⟨y0, y1, y2, y3, y4, y5, y6, y7, y8, _, ylt⟩ := Blk.nine ((Blk.new W 24 #[.int .i64 y.bl, .int .i64 y.no, .int .i64 y.st, .int .i64 y.ea, .int .i64 y.du, .int .i64 y.la, .int .i64 y.ti, .int .i64 y.lp, .int .i64 y.bu]).alloc C)
  exact ⟨⟨y0, y1, y2, y3, y4, y5, y6, y7, y8⟩, ylt⟩

set_option maxHeartbeats 12800000 in
set_option maxRecDepth 100000 in
theorem keepOf_ok (A B : Option Addr) (c c2 : Nat) (xs : List St) (cs : List Cd) (w : World) (hA : StsAt w A xs) (hB : CdsAt w B cs) (h : statesErr xs = 0) (hcl : cs.length ≤ 5000) :
    Calls Try.prog 47 #[.slice A xs.length c, .slice B cs.length c2] w (KeepOut (keepR xs (keepGo xs (cs.map Cd.key) [] [])) w) := by
  have hl := len_of_statesErr h
  obtain ⟨iS, hiS, hzS0, hzS1, hzS2⟩ := info_parts info_st
  have HIS := hide (And.intro hiS (And.intro hzS0 (And.intro hzS1 hzS2)))
  clear hiS hzS0 hzS1 hzS2
  generalize hR : keepGo xs (cs.map Cd.key) [] [] = R
  have HR := hide hR
  have hck := fun w h => statesFault_any A c xs w h
  rw [h] at hck
  have H1 := hide hck
  have HA := hide hA
  have HB := hide hB
  have hcl' : ¬ (5000 : Int) < (cs.length : Int) := by omega
  clear hck hA hB hR h
  go_enter Try.func47, Try.ntmps47
  go_upto_region 6 with (go_at_call 49; refine (H1.out _ HA.out).mono ?_; rintro e w' ⟨rfl, hb⟩; obtain ⟨os1, n1, rfl⟩ := below_plus hb; clear hb)
  have hW : Below w.heap.size w (plus w os1 n1) := bl_plus (Below.refl _ _)
  generalize plus w os1 n1 = V at hW ⊢
  have HV := hide hW
  clear hW
  go_wp2
  go_loopw [4, 5, 28] (fun v v5 i wr => ∃ (k : Nat) (kv : KV) (out : List St) (os : Array Obj) (n : Nat), k ≤ cs.length ∧ i = .int .i64 k ∧ v5 = .slice none 0 0 ∧ Hid (keepGo xs ((cs.map Cd.key).drop k) kv out = R ∧ kvSet kv) ∧ OwnK 9 24 wr (V.heap.size + 1) v k (flat out) ∧ wr = plus (V.alloc (.map (ents kv) kv.length)) os n)
    (fun _ _ i _ => cs.length - (intOf i).toNat)
  case atStart => exact ⟨0, [], [], #[], _, Nat.zero_le _, rfl, rfl, ⟨HR.out, fun p hp => by cases hp⟩, OwnK.empty, plus_nil.symm⟩
  case round =>
    obtain ⟨k, kv, out, os, n, hk, rfl, rfl, HI, ho, rfl⟩ := hrel
    by_cases hlt : k < cs.length
    · obtain ⟨i1, i2⟩ := HI.out
      rw [drop_cons (cs.map Cd.key) k (by simpa using hlt), List.getElem_map] at i1
      obtain ⟨b, off, rfl, hb, hcell⟩ := HB.out (by omega)
      have hb0 : b < V.heap.size := by have := HV.out.size; omega
      obtain ⟨d0, d1, d2, d3⟩ := hcell k hlt
      have c0 := (HV.out.cell (p := ⟨b, _, none⟩) hb).trans d0
      have c1 := (HV.out.cell (p := ⟨b, _, none⟩) hb).trans d1
      have c2' := (HV.out.cell (p := ⟨b, _, none⟩) hb).trans d2
      have c3 := (HV.out.cell (p := ⟨b, _, none⟩) hb).trans d3
      clear d0 d1 d2 d3 hcell HI
      generalize cs[k] = cd at c0 c1 c2' c3 i1
      obtain ⟨bl, no, fr, bk⟩ := cd
      simp only [Cd.key] at c0 c1 c2' c3 i1
      have I2 := hide i2
      have hnw := fun w => newOf_any bl no w
      cases hfar : cardFar (bl, no) with
      | true =>
        rw [keepGo_far hfar] at i1
        have hne := new_err (bl, no)
        rw [hfar, if_pos rfl] at hne
        simp only at hne
        rw [hne] at hnw
        have HI1 := hide i1
        generalize (St.new bl no).1 = y at hnw
        simp only [St.val] at hnw
        have HNW := hide hnw
        clear i1 i2 ho hne hfar hnw
        go_wp2_with (go_at_call 57; refine (HNW.out _).mono ?_; rintro e w' ⟨rfl, hb⟩; obtain ⟨os3, n3, rfl⟩ := below_plus hb; clear hb)
        go_returns
        rw [← HI1.out]
        exact keepOut_err (by repeat (first | exact HV.out | exact Below.refl _ _ | refine bl_plus ?_ | refine bl_alloc ?_ _ | refine bl_drew ?_))
      | false =>
        have hne := new_val (bl, no) hfar
        simp only at hne
        rw [hne] at hnw
        have hlk := fun os3 n3 C1 => lookup_three pair_arr Try.underlying109 zero_bool bl no V kv os os3 n n3 (.cells #[.int .i64 bl, .int .i64 no, .string fr, .string bk] 108) C1 (.cells #[.int .i64 bl, .int .i64 no] 110)
        rw [kvSet_find i2] at hlk
        cases hhas : kvHas (bl, no) kv with
        | true =>
          rw [keepGo_twice hfar hhas] at i1
          rw [hhas] at hlk
          have HI1 := hide i1
          generalize St.fresh bl no = y at hnw
          simp only [St.val, nameVal] at hnw hlk
          have HNW := hide hnw
          clear i1 i2 ho hfar hhas hne hnw
          go_wp2_with (go_at_call 57; refine (HNW.out _).mono ?_; rintro e w' ⟨rfl, hb⟩; obtain ⟨os3, n3, rfl⟩ := below_plus hb; clear hb)
          go_returns
          rw [← HI1.out]
          exact keepOut_err (by repeat (first | exact HV.out | exact Below.refl _ _ | refine bl_plus ?_ | refine bl_alloc ?_ _ | refine bl_drew ?_))
        | false =>
          rw [keepGo_step hfar hhas] at i1
          rw [hhas] at hlk
          have hup := fun os3 n3 C1 => update_three pair_arr Try.underlying109 bl no (.bool true) V kv os os3 n n3 (.cells #[.int .i64 bl, .int .i64 no, .string fr, .string bk] 108) C1 (.cells #[.int .i64 bl, .int .i64 no] 110)
          obtain ⟨A5, c5, rfl, _⟩ := ho.form
          have HO : Hid (OwnK 9 24 (plus (V.alloc (.map (ents (kvPut (bl, no) (.bool true) kv)) (kvPut (bl, no) (.bool true) kv).length)) os n) (V.heap.size + 1) (.slice A5 k c5) k (flat out)) :=
            ho.kept fun q hq => plus_heap_swap (by simp only [World.size_alloc]) (by have := (ho.lt q hq).1; simp only [World.size_alloc]; omega)
          have I3 := hide (kvSet_put (k := (bl, no)) i2)
          have HI1 := hide i1
          have hpk : pickName xs (bl, no) = (xs.find? (named (bl, no))).getD (St.fresh bl no) := rfl
          have hfb : (St.fresh bl no).bl = bl ∧ (St.fresh bl no).no = no := ⟨rfl, rfl⟩
          have HPK := hide hpk
          rw [hpk] at HI1
          have HFB := hide hfb
          generalize St.fresh bl no = y at hnw HI1 HPK HFB
          simp only [St.val, nameVal] at hup hnw hlk
          have HNW := hide hnw
          clear i1 i2 ho hfar hhas I2 hne hnw hpk hfb
          go_upto_region 17 with (go_at_call 57; refine (HNW.out _).mono ?_; rintro e w' ⟨rfl, hb⟩; obtain ⟨os3, n3, rfl⟩ := below_plus hb; clear hb)
          go_upto_region 18 with (go_at_call 81; refine (indexNamed_any A c xs y _ _ (HA.out.below (by repeat (first | exact HV.out | exact Below.refl _ _ | refine bl_plus ?_ | refine bl_alloc ?_ _ | refine bl_drew ?_))) (stCells_new (by simp only [plus_size, World.size_alloc])).1 (stCells_new (by simp only [plus_size, World.size_alloc])).2 hl).mono ?_; rintro e w' ⟨⟨z, rfl, hz⟩, hb⟩; obtain ⟨os5, n5, rfl⟩ := below_plus hb; clear hb; have HZ := hide hz; clear hz)
          rcases HZ.out with ⟨rfl, hf⟩ | ⟨i, hi, rfl, hf⟩
          · rw [HFB.out.1, HFB.out.2] at hf
            rw [hf, Option.getD_none] at HI1
            clear hf HZ HPK HFB
            go_wp2_with (at_builtin; go_loud (refine wpList_append_k rfl (.tmp 62) (.tmp 64) rfl rfl Try.underlying36 HIS.out.1 HIS.out.2.1 HIS.out.2.2.1 (by decide) rfl (by have := HIS.out.2.2.2; omega) (V.heap.size + 1) k _ (flat out) (stCells y) _ rfl ((((((HO.out.alloc _).plus _ _).alloc _).alloc _).plus _ _).alloc _) rfl (by intro u hu; simp only [stCells, List.mem_cons, List.not_mem_nil, or_false] at hu; rcases hu with rfl | rfl | rfl | rfl | rfl | rfl | rfl | rfl | rfl <;> rfl) rfl (new_cells9 (by simp only [plus_size, World.size_alloc])) (by omega) (by simp only [World.size_alloc, plus_size]; omega) ?_; intro v' w1 hown1 hgr1 hfr1; obtain ⟨os9, n9, rfl⟩ := grown_plus (L := (V.alloc (.map (ents (kvPut (bl, no) (.bool true) kv)) (kvPut (bl, no) (.bool true) kv).length))) (by repeat (first | exact Below.refl _ _ | refine bl_plus ?_ | refine bl_alloc ?_ _ | refine bl_drew ?_)) hgr1 (fun q hq => by have := (HO.out.lt q hq).1; simp only [World.size_alloc]; omega); have HN := hide hown1; clear hown1 hgr1 hfr1))
            go_roundw
            case rel => exact ⟨k + 1, _, out ++ [y], _, _, hlt, by go_num, rfl, ⟨HI1.out, I3.out⟩, by rw [flat_snoc]; exact HN.out, rfl⟩
            case measure => simp [intOf]; omega
          · rw [HFB.out.1, HFB.out.2] at hf
            rw [hf, Option.getD_some] at HI1
            obtain ⟨bA, oA, rfl, hbA, hcA⟩ := HA.out (by omega)
            have hbA0 : bA < V.heap.size := by have := HV.out.size; omega
            have hcc : StCells V bA (oA + i * 9) xs[i] := (hcA i hi).keep fun j => HV.out.cell (p := ⟨bA, j, none⟩) hbA
            have hiz : (i : Int) < (xs.length : Int) := by omega
            clear hcA hf HZ HPK HFB
            generalize xs[i] = q at hcc HI1
            obtain ⟨e0, e1, e2, e3, e4, e5, e6, e7, e8⟩ := hcc
            go_wp2_with (at_builtin; go_loud (refine wpList_append_k rfl (.tmp 62) (.tmp 64) rfl rfl Try.underlying36 HIS.out.1 HIS.out.2.1 HIS.out.2.2.1 (by decide) rfl (by have := HIS.out.2.2.2; omega) (V.heap.size + 1) k _ (flat out) (stCells q) _ rfl ((((((HO.out.alloc _).plus _ _).alloc _).alloc _).plus _ _).alloc _) rfl (by intro u hu; simp only [stCells, List.mem_cons, List.not_mem_nil, or_false] at hu; rcases hu with rfl | rfl | rfl | rfl | rfl | rfl | rfl | rfl | rfl <;> rfl) rfl (new_cells9 (by simp only [plus_size, World.size_alloc])) (by omega) (by simp only [World.size_alloc, plus_size]; omega) ?_; intro v' w1 hown1 hgr1 hfr1; obtain ⟨os9, n9, rfl⟩ := grown_plus (L := (V.alloc (.map (ents (kvPut (bl, no) (.bool true) kv)) (kvPut (bl, no) (.bool true) kv).length))) (by repeat (first | exact Below.refl _ _ | refine bl_plus ?_ | refine bl_alloc ?_ _ | refine bl_drew ?_)) hgr1 (fun q hq => by have := (HO.out.lt q hq).1; simp only [World.size_alloc]; omega); have HN := hide hown1; clear hown1 hgr1 hfr1))
            go_roundw
            case rel => exact ⟨k + 1, _, out ++ [q], _, _, hlt, by go_num, rfl, ⟨HI1.out, I3.out⟩, by rw [flat_snoc]; exact HN.out, rfl⟩
            case measure => simp [intOf]; omega
    · have hkl : k = cs.length := by omega
      subst hkl
      obtain ⟨i1, i2⟩ := HI.out
      rw [show List.drop cs.length (cs.map Cd.key) = [] from by simp] at i1
      simp only [keepGo] at i1
      obtain ⟨A5, c5, rfl, hc5⟩ := ho.form
      obtain ⟨_, hol, _⟩ := ho.sts
      have HOL := hide hol
      have HI1 := hide i1
      have I2 := hide i2
      have HO := hide ho
      clear i1 i2 ho hol HI
      go_wp2
      go_loopw [5, 69] (fun v2 i wr => ∃ (k : Nat) (os : Array Obj) (n : Nat), k ≤ xs.length ∧ i = .int .i64 k ∧ Hid (Apart v2 (.slice A5 cs.length c5)) ∧ Hid (OwnK 9 24 wr (V.heap.size + 1) v2 (goneOf kv (xs.take k)).length (flat (goneOf kv (xs.take k))) ∧ OwnK 9 24 wr (V.heap.size + 1) (.slice A5 cs.length c5) cs.length (flat out)) ∧ wr = plus (V.alloc (.map (ents kv) kv.length)) os n)
        (fun _ i _ => xs.length - (intOf i).toNat)
      case atStart => exact ⟨0, _, _, Nat.zero_le _, rfl, (fun g hg => by simp [Value.ownBlock] at hg), ⟨OwnK.empty, HO.out⟩, rfl⟩
      case round =>
        clear HO
        obtain ⟨k, os, n, hk, rfl, AP, HK, rfl⟩ := hrel
        by_cases hlt : k < xs.length
        · have hgt := goneOf_take kv xs k hlt
          have hgl := goneOf_len kv (xs.take k)
          have hgl2 : (goneOf kv (xs.take k)).length ≤ 5000 := by rw [List.length_take] at hgl; omega
          obtain ⟨b, off, rfl, hb, hcell⟩ := HA.out (by omega)
          have hb0 : b < V.heap.size := by have := HV.out.size; omega
          have hcc : StCells V b (off + k * 9) xs[k] := (hcell k hlt).keep fun i => HV.out.cell (p := ⟨b, i, none⟩) hb
          clear hcell hgl
          generalize xs[k] = x at hcc hgt
          obtain ⟨c0, c1, c2', c3, c4, c5', c6, c7, c8⟩ := hcc
          have hlk := lookup_one pair_arr Try.underlying109 zero_bool x.bl x.no V kv os n (.cells #[.int .i64 x.bl, .int .i64 x.no, .int .i64 x.st, .int .i64 x.ea, .int .i64 x.du, .int .i64 x.la, .int .i64 x.ti, .int .i64 x.lp, .int .i64 x.bu] 24)
          rw [kvSet_find I2.out] at hlk
          simp only [nameVal] at hlk
          obtain ⟨o1, o2⟩ := HK.out
          obtain ⟨A6, c6', rfl, _⟩ := o1.form
          have O1 := hide o1
          have O2 := hide o2
          clear o1 o2 HK
          cases hhas : kvHas (x.bl, x.no) kv with
          | true =>
            rw [hhas] at hlk hgt
            rw [if_pos rfl] at hgt
            have HGT := hide hgt
            clear hgt hhas
            go_wp2
            go_roundw
            case rel => exact ⟨k + 1, _, _, hlt, by go_num, AP, ⟨by rw [HGT.out]; exact O1.out.alloc _, O2.out.alloc _⟩, by rw [plus_alloc]⟩
            case measure => simp [intOf]; omega
          | false =>
            rw [hhas] at hlk hgt
            rw [if_neg (by simp)] at hgt
            have HGT := hide hgt
            clear hgt hhas
            go_wp2_with (at_builtin; go_loud (refine wpList_append_k rfl (.tmp 81) (.tmp 83) rfl rfl Try.underlying36 HIS.out.1 HIS.out.2.1 HIS.out.2.2.1 (by decide) rfl (by have := HIS.out.2.2.2; omega) (V.heap.size + 1) _ _ (flat (goneOf kv (xs.take k))) (stCells x) _ rfl ((O1.out.alloc _).alloc _) rfl (by intro u hu; simp only [stCells, List.mem_cons, List.not_mem_nil, or_false] at hu; rcases hu with rfl | rfl | rfl | rfl | rfl | rfl | rfl | rfl | rfl <;> rfl) rfl (new_cells9 (by simp only [plus_size, World.size_alloc])) (by omega) (by simp only [World.size_alloc, plus_size]; omega) ?_; intro v' w1 hown1 hgr1 hfr1; obtain ⟨os9, n9, rfl, P1, P2⟩ := after_append_one (B := (V.alloc (.map (ents kv) kv.length))) (by simp only [World.size_alloc]) (by repeat (first | exact Below.refl _ _ | refine bl_plus ?_ | refine bl_alloc ?_ _ | refine bl_drew ?_)) ((O2.out.alloc _).alloc _) hgr1 (fun q hq => (O1.out.lt q hq).1) hfr1 AP.out; have PP := hide (And.intro P1 P2); have HN := hide hown1; clear P1 P2 hown1 hgr1 hfr1))
            go_roundw
            case rel => exact ⟨k + 1, _, _, hlt, by go_num, PP.out.2, ⟨by rw [HGT.out, flat_snoc, List.length_append]; exact HN.out, PP.out.1⟩, rfl⟩
            case measure => simp [intOf]; omega
        · have hkl : k = xs.length := by omega
          subst hkl
          obtain ⟨o1, o2⟩ := HK.out
          rw [List.take_length] at o1
          obtain ⟨A6, c6', rfl, hc6⟩ := o1.form
          have O1 := hide o1
          have O2 := hide o2
          clear o1 o2 HK
          go_wp2_with (go_at_call 78; refine (sortSts_any 83 (enters_of Try.func83 (by kernel_rfl) rfl) (fun x y W => order_grow x y W) (V.heap.size + 1) c5 cs.length A5 out _ O2.out (by omega) (by simp only [plus_size, World.size_alloc]; omega)).mono ?_; rintro e w' ⟨rfl, hb, hs, hoth⟩; have hq := O1.out.kept (w' := w') (fun q hq => hoth q (fun e => AP.out q hq e.symm) (O1.out.lt q hq).2); obtain ⟨os4, n4, rfl⟩ := below_plus (W := (V.alloc (.map (ents kv) kv.length))) ((bl_plus (Below.refl _ _)).trans (by rw [World.size_alloc]; exact hb)); have HS := hide hs; have HQ := hide hq; clear hb hs hoth hq)
          go_returns
          rw [← HI1.out]
          show KeepOut ((sortSt out, goneOf kv xs), 0) w _ _
          obtain ⟨_, sl2, s2⟩ := HS.out.sts
          obtain ⟨_, _, s1⟩ := HQ.out.sts
          exact keepOut_mk rfl sl2 rfl s2 s1 (by repeat (first | exact HV.out | exact Below.refl _ _ | refine bl_plus ?_ | refine bl_alloc ?_ _ | refine bl_drew ?_))

theorem keepOf_any (A B : Option Addr) (c c2 : Nat) (xs : List St) (cs : List Cd) (w : World) (hA : StsAt w A xs) (hB : CdsAt w B cs) :
    Calls Try.prog 47 #[.slice A xs.length c, .slice B cs.length c2] w (KeepOut (keep xs (cs.map Cd.key)) w) := by
  by_cases h : statesErr xs = 0
  · by_cases hl : cs.length ≤ 5000
    · rw [keep_eq h (by simpa using hl)]; exact keepOf_ok A B c c2 xs cs w hA hB h hl
    · exact keepOf_long A B c c2 xs cs w hA h (by omega)
  · exact keepOf_bad A B c c2 xs cs w hA h

end Go.Proofs.Ytokghdcfbbogdaa
