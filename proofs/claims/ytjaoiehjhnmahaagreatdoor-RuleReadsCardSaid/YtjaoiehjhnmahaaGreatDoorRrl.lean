/-
  WALK: ReadRule, in the program.
-/
import Derived.Test.YtjaoiehjhnmahaaGreatDoorRrg
import Derived.Laws.ResultCell
set_option linter.all false
namespace Go.Proofs.YtjaoiehjhnmahaaGreatDoor
open Go.RowKit

theorem words_sizeP (s : ByteArray) (h : s.size ≤ 2000) : ∀ x ∈ wordsR s, x.size ≤ 2000 := fun x hx => by
  have hpd : (wordsR s).map (·.data.toList) = partC 32 s.data.toList := by
    unfold wordsR
    rw [Lib.splitB_data]
    exact split_partC 32 s.data.toList
  have h1 : x.data.toList ∈ (wordsR s).map (·.data.toList) := List.mem_map.2 ⟨x, hx, rfl⟩
  rw [hpd] at h1
  have := partC_le 32 s.data.toList _ h1
  have e1 : x.size = x.data.toList.length := Lib.size_eq x
  have e2 : s.size = s.data.toList.length := Lib.size_eq s
  omega
theorem words_lenP (s : ByteArray) (h : s.size ≤ 2000) : (wordsR s).length ≤ 2001 := by
  rw [wordsR_len]
  have := Lib.countB_le ⟨#[32]⟩ (by decide) s.size s (Nat.le_refl _)
  omega
theorem res_cell2P {P : Program} {fn : Func} {p u : Tmp} {ty : TypeId} (h : fn.results = #[.cell p ty, .tmp u]) (tmps : Array Value) (w : World) (g : Nat) (t : TypeId) (cs : Array Value) (fr : Nat × Nat) (d : TypeDesc)
    (hp : tmps.getD p undef = .pointer (some ⟨g, 0, none⟩)) (hg : w.heap[g]? = some (.cells cs t fr)) (hu : P.underlying ty = some d) (hd : (match d with | .struct _ | .array _ _ => true | _ => false) = true) (hi : (P.info? ty).map (·.size) = some cs.size) :
    (results fn tmps).run P w = .ok (.tuple #[.agg cs, tmps.getD u undef]) w := by
  rw [results_cell_tmp h, hp]
  simp [asAddr, Result.andThen, run_loadVar_row w g t ty cs fr d hg hu hd hi]
theorem IR.plusP {w : World} {lo : Nat} {A : Option Addr} {l : List Int} {os : Array Obj} {n : Nat} (h : IR w lo A l) : IR (plus w os n) lo A l := h.keep (by rw [plus_size]; omega) fun b _ h2 => plus_heap h2
theorem IR.setlP {w : World} {lo g i : Nat} {A : Option Addr} {l : List Int} {v : Value} (h : IR w lo A l) (hg : g < lo) : IR (w.setCell ⟨g, i, none⟩ v) lo A l :=
  h.keep (by simp [World.setCell]) fun b h1 _ => Below.heap_setCell w _ v b (by simp only; omega)

theorem Rd.start0P (s : ByteArray) (w : World) (h : s.size ≤ 2000) : Rd 64 (((w.alloc (.cells #[.int .i64 0, .int .i64 0, .int .i64 0, .int .i64 0, .int .i64 0, .slice none 0 0, .slice none 0 0, .int .i64 0, .slice none 0 0] 32)).alloc (.cells ((wordsR s).map Value.string).toArray 9)).alloc (.cells #[.slice (some ⟨w.heap.size + 1, 0, none⟩) (wordsR s).length (wordsR s).length, .bool false] 64)) (w.heap.size + 1 + 1) (((w.alloc (.cells #[.int .i64 0, .int .i64 0, .int .i64 0, .int .i64 0, .int .i64 0, .slice none 0 0, .slice none 0 0, .int .i64 0, .slice none 0 0] 32)).alloc (.cells ((wordsR s).map Value.string).toArray 9)).alloc (.cells #[.slice (some ⟨w.heap.size + 1, 0, none⟩) (wordsR s).length (wordsR s).length, .bool false] 64)).heap.size (wordsR s) false ∧ (((w.alloc (.cells #[.int .i64 0, .int .i64 0, .int .i64 0, .int .i64 0, .int .i64 0, .slice none 0 0, .slice none 0 0, .int .i64 0, .slice none 0 0] 32)).alloc (.cells ((wordsR s).map Value.string).toArray 9)).alloc (.cells #[.slice (some ⟨w.heap.size + 1, 0, none⟩) (wordsR s).length (wordsR s).length, .bool false] 64)).heap.size = w.heap.size + 1 + 1 + 1 ∧ Below w.heap.size w (((w.alloc (.cells #[.int .i64 0, .int .i64 0, .int .i64 0, .int .i64 0, .int .i64 0, .slice none 0 0, .slice none 0 0, .int .i64 0, .slice none 0 0] 32)).alloc (.cells ((wordsR s).map Value.string).toArray 9)).alloc (.cells #[.slice (some ⟨w.heap.size + 1, 0, none⟩) (wordsR s).length (wordsR s).length, .bool false] 64)) ∧ Blk (((w.alloc (.cells #[.int .i64 0, .int .i64 0, .int .i64 0, .int .i64 0, .int .i64 0, .slice none 0 0, .slice none 0 0, .int .i64 0, .slice none 0 0] 32)).alloc (.cells ((wordsR s).map Value.string).toArray 9)).alloc (.cells #[.slice (some ⟨w.heap.size + 1, 0, none⟩) (wordsR s).length (wordsR s).length, .bool false] 64)) w.heap.size 32 #[.int .i64 0, .int .i64 0, .int .i64 0, .int .i64 0, .int .i64 0, .slice none 0 0, .slice none 0 0, .int .i64 0, .slice none 0 0] := by
  have hs : (((w.alloc (.cells #[.int .i64 0, .int .i64 0, .int .i64 0, .int .i64 0, .int .i64 0, .slice none 0 0, .slice none 0 0, .int .i64 0, .slice none 0 0] 32)).alloc (.cells ((wordsR s).map Value.string).toArray 9)).alloc (.cells #[.slice (some ⟨w.heap.size + 1, 0, none⟩) (wordsR s).length (wordsR s).length, .bool false] 64)).heap.size = w.heap.size + 1 + 1 + 1 := by simp only [World.size_alloc]
  have hb : Below w.heap.size w (((w.alloc (.cells #[.int .i64 0, .int .i64 0, .int .i64 0, .int .i64 0, .int .i64 0, .slice none 0 0, .slice none 0 0, .int .i64 0, .slice none 0 0] 32)).alloc (.cells ((wordsR s).map Value.string).toArray 9)).alloc (.cells #[.slice (some ⟨w.heap.size + 1, 0, none⟩) (wordsR s).length (wordsR s).length, .bool false] 64)) := (by repeat (first | exact Below.refl _ _ | with_reducible refine bl_plus ?_ | with_reducible refine bl_alloc ?_ _ | with_reducible refine bl_drew ?_ | with_reducible refine bl_drewN ?_ _))
  have hz : Blk (((w.alloc (.cells #[.int .i64 0, .int .i64 0, .int .i64 0, .int .i64 0, .int .i64 0, .slice none 0 0, .slice none 0 0, .int .i64 0, .slice none 0 0] 32)).alloc (.cells ((wordsR s).map Value.string).toArray 9)).alloc (.cells #[.slice (some ⟨w.heap.size + 1, 0, none⟩) (wordsR s).length (wordsR s).length, .bool false] 64)) w.heap.size 32 #[.int .i64 0, .int .i64 0, .int .i64 0, .int .i64 0, .int .i64 0, .slice none 0 0, .slice none 0 0, .int .i64 0, .slice none 0 0] := ((Blk.new w _ _).alloc _).alloc _
  have hr : Blk (((w.alloc (.cells #[.int .i64 0, .int .i64 0, .int .i64 0, .int .i64 0, .int .i64 0, .slice none 0 0, .slice none 0 0, .int .i64 0, .slice none 0 0] 32)).alloc (.cells ((wordsR s).map Value.string).toArray 9)).alloc (.cells #[.slice (some ⟨w.heap.size + 1, 0, none⟩) (wordsR s).length (wordsR s).length, .bool false] 64)) (w.heap.size + 1) 9 ((wordsR s).map Value.string).toArray := by
    have := (Blk.new (w.alloc (.cells #[.int .i64 0, .int .i64 0, .int .i64 0, .int .i64 0, .int .i64 0, .slice none 0 0, .slice none 0 0, .int .i64 0, .slice none 0 0] 32)) 9 ((wordsR s).map Value.string).toArray).alloc (.cells #[.slice (some ⟨w.heap.size + 1, 0, none⟩) (wordsR s).length (wordsR s).length, .bool false] 64)
    rwa [World.size_alloc] at this
  have hp : Blk (((w.alloc (.cells #[.int .i64 0, .int .i64 0, .int .i64 0, .int .i64 0, .int .i64 0, .slice none 0 0, .slice none 0 0, .int .i64 0, .slice none 0 0] 32)).alloc (.cells ((wordsR s).map Value.string).toArray 9)).alloc (.cells #[.slice (some ⟨w.heap.size + 1, 0, none⟩) (wordsR s).length (wordsR s).length, .bool false] 64)) (w.heap.size + 1 + 1) 64 #[.slice (some ⟨w.heap.size + 1, 0, none⟩) (wordsR s).length (wordsR s).length, .bool false] := by
    have := Blk.new ((w.alloc (.cells #[.int .i64 0, .int .i64 0, .int .i64 0, .int .i64 0, .int .i64 0, .slice none 0 0, .slice none 0 0, .int .i64 0, .slice none 0 0] 32)).alloc (.cells ((wordsR s).map Value.string).toArray 9)) 64 #[.slice (some ⟨w.heap.size + 1, 0, none⟩) (wordsR s).length (wordsR s).length, .bool false]
    rwa [World.size_alloc, World.size_alloc] at this
  have hl := words_lenP s h
  have hwz := words_sizeP s h
  generalize (((w.alloc (.cells #[.int .i64 0, .int .i64 0, .int .i64 0, .int .i64 0, .int .i64 0, .slice none 0 0, .slice none 0 0, .int .i64 0, .slice none 0 0] 32)).alloc (.cells ((wordsR s).map Value.string).toArray 9)).alloc (.cells #[.slice (some ⟨w.heap.size + 1, 0, none⟩) (wordsR s).length (wordsR s).length, .bool false] 64)) = w0 at *
  refine ⟨⟨⟨w.heap.size + 1, 0, (wordsR s).length, hp, by omega, by omega, Nat.le_refl _, by omega, fun k hk => ?_⟩, by omega, Nat.le_refl _, hwz⟩, hs, hb, hz⟩
  rw [Nat.zero_add, hr.cell k]
  simp [hk]

set_option maxHeartbeats 6400000 in
set_option maxRecDepth 100000 in
theorem readRule_any (s : ByteArray) (w : World) (hp : PowTab w) (hm : MaxTold w) (PO : Ending → World → Prop)
    (hPO : ∀ (w' : World) (v : Value), RulAt w' (readR s).1 v → Below w.heap.size w w' → PO (.returned (.tuple #[v, .int .i64 (readR s).2])) w') :
    Calls Tryz.prog 12 #[.string s] w PO := by
  have HPO := hide hPO
  have HM := hide hm
  clear hPO hm
  by_cases h1 : 2000 < s.size
  · have hr : readR s = (rulZ, 4) := if_pos h1
    rw [hr] at HPO
    go_enter Tryz.func12, Tryz.ntmps12
    go_wp2
    go_returns
    exact HPO.out _ _ ⟨⟨none, none, none, 0, 0, 0, rfl, IntsAt.nil, IntsAt.nil, IntsAt.nil, by decide, by decide, by decide⟩⟩ (by repeat (first | exact Below.refl _ _ | refine bl_plus ?_ | refine bl_alloc ?_ _ | refine bl_drew ?_))
  · have hsp := fun w hm => Tryz.split_any s ⟨#[32]⟩ w hm (by omega) (by decide)
    have hwl := wordsR_len s
    rw [← hwl] at hsp
    change ∀ w, MaxTold w → Calls Tryz.prog 26 #[.string s, .string ⟨#[32]⟩] w (fun e w' => e = .returned (.slice (some ⟨w.heap.size, 0, none⟩) (wordsR s).length (wordsR s).length) ∧ w' = w.alloc (.cells ((wordsR s).map Value.string).toArray 9)) at hsp
    have HSP := hide hsp
    obtain ⟨r0, hsz, hbw, hres⟩ := Rd.start0P s w (by omega)
    have hrs : readR s = (match parseR (wordsR s) with | some r => if r.err = 0 then (r, 0) else (rulZ, r.err) | none => (rulZ, 8)) := if_neg h1
    rw [hrs] at HPO
    have HHW : Hid (∀ w', Trn (w.heap.size + 1 + 1) (((w.alloc (.cells #[.int .i64 0, .int .i64 0, .int .i64 0, .int .i64 0, .int .i64 0, .slice none 0 0, .slice none 0 0, .int .i64 0, .slice none 0 0] 32)).alloc (.cells ((wordsR s).map Value.string).toArray 9)).alloc (.cells #[.slice (some ⟨w.heap.size + 1, 0, none⟩) (wordsR s).length (wordsR s).length, .bool false] 64)) w' → Below w.heap.size w w' ∧ Blk w' w.heap.size 32 #[.int .i64 0, .int .i64 0, .int .i64 0, .int .i64 0, .int .i64 0, .slice none 0 0, .slice none 0 0, .int .i64 0, .slice none 0 0]) := hide (fun w' ht => ⟨ht.below (by omega) hbw (by rw [hsz]; omega), ht.blk hres (by omega)⟩)
    have HPT := hide (fun w' ht => powTab_below hp (HHW.out w' ht).1)
    have HRD := hide r0
    clear r0 hrs hres hbw hsp hwl hp
    go_enter Tryz.func12, Tryz.ntmps12
    go_upto_region 5 with (first | (go_at_call 26; refine (HSP.out _ (maxTold_below HM.out (by repeat (first | exact Below.refl _ _ | refine bl_plus ?_ | refine bl_alloc ?_ _ | refine bl_drew ?_)))).mono ?_; rintro e w' ⟨rfl, rfl⟩) | (go_at_call 27; refine ruleP_any _ (wordsR s) false _ _ HRD.out HPT.out ?_; intro W2 L2 f2 r2 v2 hg2 hra2 hrd2 htr2; obtain ⟨A1, A2, A3, c1, c2, c3, rfl, i1, i2, i3⟩ := hra2; have HB := hide (HHW.out W2 htr2); have HR2 := hide hrd2; have HT2 := hide htr2; have GG := hide hg2; have I1 := hide i1; have I2 := hide i2; have I3 := hide i3; clear i1 i2 i3 hg2 htr2 hrd2))
    have hx := Blk.new W2 32 #[.int .i64 r2.u, .int .i64 r2.e, .int .i64 r2.f, .int .i64 r2.t, .int .i64 r2.c, .slice A1 r2.wd.length c1, .slice A2 r2.da.length c2, .int .i64 r2.n, .slice A3 r2.sk.length c3]
    have hgl : w.heap.size < W2.heap.size := HB.out.2.lt
    have hb2 : Below W2.heap.size W2 (W2.alloc (.cells #[.int .i64 r2.u, .int .i64 r2.e, .int .i64 r2.f, .int .i64 r2.t, .int .i64 r2.c, .slice A1 r2.wd.length c1, .slice A2 r2.da.length c2, .int .i64 r2.n, .slice A3 r2.sk.length c3] 32)) := bl_alloc (Below.refl _ _) _
    have hpb : w.heap.size + 1 + 1 < W2.heap.size := Nat.lt_of_lt_of_le HR2.out.lt HR2.out.le
    have hlo : w.heap.size < (((w.alloc (.cells #[.int .i64 0, .int .i64 0, .int .i64 0, .int .i64 0, .int .i64 0, .slice none 0 0, .slice none 0 0, .int .i64 0, .slice none 0 0] 32)).alloc (.cells ((wordsR s).map Value.string).toArray 9)).alloc (.cells #[.slice (some ⟨w.heap.size + 1, 0, none⟩) (wordsR s).length (wordsR s).length, .bool false] 64)).heap.size + 2 := by omega
    have hrd := HR2.out.below_ hb2
    have hbw := HB.out.1.trans (hb2.mono (Nat.le_of_lt hgl))
    have hz := HB.out.2.below hb2 hgl
    have i1 := I1.out.keep hb2.size (fun b _ h => hb2.block b h)
    have i2 := I2.out.keep hb2.size (fun b _ h => hb2.block b h)
    have i3 := I3.out.keep hb2.size (fun b _ h => hb2.block b h)
    clear HSP HRD HPT HHW HM h1 HB HR2 HT2 I1 I2 I3
    generalize hxl : W2.heap.size = gx at *
    generalize W2.alloc (.cells #[.int .i64 r2.u, .int .i64 r2.e, .int .i64 r2.f, .int .i64 r2.t, .int .i64 r2.c, .slice A1 r2.wd.length c1, .slice A2 r2.da.length c2, .int .i64 r2.n, .slice A3 r2.sk.length c3] 32) = W3 at *
    generalize (((w.alloc (.cells #[.int .i64 0, .int .i64 0, .int .i64 0, .int .i64 0, .int .i64 0, .slice none 0 0, .slice none 0 0, .int .i64 0, .slice none 0 0] 32)).alloc (.cells ((wordsR s).map Value.string).toArray 9)).alloc (.cells #[.slice (some ⟨w.heap.size + 1, 0, none⟩) (wordsR s).length (wordsR s).length, .bool false] 64)).heap.size + 2 = lo at *
    obtain ⟨⟨b9, o9, q9, k1, -, -, -, -, -⟩, -, -, -⟩ := hrd
    have q1 : W3.cell? ⟨w.heap.size + 1 + 1, 1, none⟩ = some (.bool f2) := k1.cell 1
    have hpw := k1.lt
    have HZ := hide hz
    have HX := hide hx
    have HBW := hide hbw
    have I1 := hide i1
    have I2 := hide i2
    have I3 := hide i3
    obtain ⟨d0, d1, d2, d3, d4, d5, d6, d7, d8, dz, hgw⟩ := hz.nine
    obtain ⟨e0, e1, e2, e3, e4, e5, e6, e7, e8, ez, hgx⟩ := hx.nine
    have hne1 : ¬ w.heap.size = gx := by omega
    have hne2 : ¬ gx = w.heap.size := by omega
    clear k1 hz hx hbw hxl hb2 hsz i1 i2 i3
    cases f2
    · have hO : parseR (wordsR s) = some r2 := GG.out
      rw [hO] at HPO
      have RA : RulI W3 lo r2 (.agg #[.int .i64 r2.u, .int .i64 r2.e, .int .i64 r2.f, .int .i64 r2.t, .int .i64 r2.c, .slice A1 r2.wd.length c1, .slice A2 r2.da.length c2, .int .i64 r2.n, .slice A3 r2.sk.length c3]) := ⟨A1, A2, A3, c1, c2, c3, rfl, I1.out, I2.out, I3.out⟩
      have HCK := hide (fun W (hb : Below W3.heap.size W3 W) => checkRule_any r2 _ W (RA.at_.below hb))
      clear RA
      go_upto_region 8 with (go_at_call 28; refine (HCK.out _ ?hb).mono ?_; (case hb => exact (by repeat (first | exact Below.refl _ _ | with_reducible refine bl_plus ?_ | with_reducible refine bl_alloc ?_ _ | with_reducible refine bl_drew ?_ | with_reducible refine bl_drewN ?_ _))); rintro e W4 ⟨rfl, hbl⟩; have HBL := hide hbl; clear hbl)
      have hz := HZ.out.below HBL.out hgw
      have hx := HX.out.below HBL.out hgx
      have hbw := HBW.out.trans (HBL.out.mono (Nat.le_of_lt hgw))
      have i1 := I1.out.keep HBL.out.size (fun b _ h => HBL.out.block b h)
      have i2 := I2.out.keep HBL.out.size (fun b _ h => HBL.out.block b h)
      have i3 := I3.out.keep HBL.out.size (fun b _ h => HBL.out.block b h)
      clear d0 d1 d2 d3 d4 d5 d6 d7 d8 dz e0 e1 e2 e3 e4 e5 e6 e7 e8 ez hgw hgx HZ HX HBW I1 I2 I3 HCK q1 hpw HBL
      have HZ := hide hz
      have HBW := hide hbw
      have I1 := hide i1
      have I2 := hide i2
      have I3 := hide i3
      obtain ⟨d0, d1, d2, d3, d4, d5, d6, d7, d8, dz, hgw⟩ := hz.nine
      obtain ⟨e0, e1, e2, e3, e4, e5, e6, e7, e8, ez, hgx⟩ := hx.nine
      clear hz hx hbw i1 i2 i3
      rcases (by omega : r2.err = 0 ∨ r2.err ≠ 0) with he | he
      · have HP2 : Hid (∀ (w' : World) (v : Value), RulAt w' r2 v → Below w.heap.size w w' → PO (.returned (.tuple #[v, .int .i64 0])) w') := by have h9 := HPO; simp only [if_pos he] at h9; exact h9
        rw [he]
        clear HPO he hO GG
        go_wp2
        refine bodyPost_ret (res_cell2P (P := Tryz.prog) (fn := Tryz.f12) (p := 2) (u := 3) rfl _ _ w.heap.size 32 #[.int .i64 r2.u, .int .i64 r2.e, .int .i64 r2.f, .int .i64 r2.t, .int .i64 r2.c, .slice A1 r2.wd.length c1, .slice A2 r2.da.length c2, .int .i64 r2.n, .slice A3 r2.sk.length c3] (0, 0) _ rfl (nine_set HZ.out) Tryz.underlying32 rfl (by kernel_rfl)) rfl ?_
        exact HP2.out _ _ (RulI.at_ (lo := lo) ⟨A1, A2, A3, c1, c2, c3, rfl, (by repeat (first | with_reducible exact I1.out | with_reducible refine IR.setlP ?_ hlo)), (by repeat (first | with_reducible exact I2.out | with_reducible refine IR.setlP ?_ hlo)), (by repeat (first | with_reducible exact I3.out | with_reducible refine IR.setlP ?_ hlo))⟩) (by repeat (first | with_reducible exact HBW.out | with_reducible refine bl_plus ?_ | with_reducible refine bl_alloc ?_ _ | with_reducible refine bl_setg ?_))
      · have HP2 : Hid (∀ (w' : World) (v : Value), RulAt w' rulZ v → Below w.heap.size w w' → PO (.returned (.tuple #[v, .int .i64 r2.err])) w') := by have h9 := HPO; simp only [if_neg he] at h9; exact h9
        have he2 : (r2.err != 0) = true := bne_iff_ne.2 he
        generalize r2.err = E at *
        clear HPO he hO GG
        go_wp2
        refine bodyPost_ret (res_cell2P (P := Tryz.prog) (fn := Tryz.f12) (p := 2) (u := 3) rfl _ _ w.heap.size 32 #[.int .i64 0, .int .i64 0, .int .i64 0, .int .i64 0, .int .i64 0, .slice none 0 0, .slice none 0 0, .int .i64 0, .slice none 0 0] (0, 0) _ rfl (nine_set HZ.out) Tryz.underlying32 rfl (by kernel_rfl)) rfl ?_
        exact HP2.out _ _ ⟨⟨none, none, none, 0, 0, 0, rfl, IntsAt.nil, IntsAt.nil, IntsAt.nil, by decide, by decide, by decide⟩⟩ (by repeat (first | with_reducible exact HBW.out | with_reducible refine bl_plus ?_ | with_reducible refine bl_alloc ?_ _ | with_reducible refine bl_setg ?_))
    · have hO : parseR (wordsR s) = none := GG.out
      rw [hO] at HPO
      have HP2 : Hid (∀ (w' : World) (v : Value), RulAt w' rulZ v → Below w.heap.size w w' → PO (.returned (.tuple #[v, .int .i64 8])) w') := HPO
      clear HPO hO GG
      go_wp2
      refine bodyPost_ret (res_cell2P (P := Tryz.prog) (fn := Tryz.f12) (p := 2) (u := 3) rfl _ _ w.heap.size 32 #[.int .i64 0, .int .i64 0, .int .i64 0, .int .i64 0, .int .i64 0, .slice none 0 0, .slice none 0 0, .int .i64 0, .slice none 0 0] (0, 0) _ rfl (nine_set HZ.out) Tryz.underlying32 rfl (by kernel_rfl)) rfl ?_
      exact HP2.out _ _ ⟨⟨none, none, none, 0, 0, 0, rfl, IntsAt.nil, IntsAt.nil, IntsAt.nil, by decide, by decide, by decide⟩⟩ (by repeat (first | with_reducible exact HBW.out | with_reducible refine bl_plus ?_ | with_reducible refine bl_alloc ?_ _ | with_reducible refine bl_setg ?_))

end Go.Proofs.YtjaoiehjhnmahaaGreatDoor
