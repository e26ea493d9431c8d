/-
  WALK: a rule that is read, in the reference.
-/
import Derived.Test.YtjaoiehjhnmahaaGreatDoorRrj
import Derived.Test.YtjaoiehjhnmahaaGreatDoorRrg
import Derived.Test.YtjaoiehjhnmahaaGreatDoorRld
import Derived.Laws.ResultCell
set_option linter.all false
namespace Go.Proofs.YtjaoiehjhnmahaaGreatDoor
open Go.RowKit

theorem words_size (s : ByteArray) (h : s.size ≤ 2000) : ∀ x ∈ wordsR s, x.size ≤ 2000 := fun x hx => by
  have hpd : (wordsR s).map (·.data.toList) = partC 32 s.data.toList := by
    unfold wordsR
    rw [Lib.splitB_data]
    exact split_partC 32 s.data.toList
  have h1 : x.data.toList ∈ (wordsR s).map (·.data.toList) := List.mem_map.2 ⟨x, hx, rfl⟩
  rw [hpd] at h1
  have := partC_le 32 s.data.toList _ h1
  have e1 : x.size = x.data.toList.length := Lib.size_eq x
  have e2 : s.size = s.data.toList.length := Lib.size_eq s
  omega
theorem words_len (s : ByteArray) (h : s.size ≤ 2000) : (wordsR s).length ≤ 2001 := by
  rw [wordsR_len]
  have := Lib.countB_le ⟨#[32]⟩ (by decide) s.size s (Nat.le_refl _)
  omega
theorem RR.start0 (s : ByteArray) (w : World) (h : s.size ≤ 2000) : RR (((w.alloc (.cells #[.int .i64 0, .int .i64 0, .int .i64 0, .int .i64 0, .int .i64 0, .slice none 0 0, .slice none 0 0, .int .i64 0, .slice none 0 0] 32)).alloc (.cells ((wordsR s).map Value.string).toArray 9)).alloc (.cells #[.slice (some ⟨w.heap.size + 1, 0, none⟩) (wordsR s).length (wordsR s).length, .bool true] 69)) ((((w.alloc (.cells #[.int .i64 0, .int .i64 0, .int .i64 0, .int .i64 0, .int .i64 0, .slice none 0 0, .slice none 0 0, .int .i64 0, .slice none 0 0] 32)).alloc (.cells ((wordsR s).map Value.string).toArray 9)).alloc (.cells #[.slice (some ⟨w.heap.size + 1, 0, none⟩) (wordsR s).length (wordsR s).length, .bool true] 69)).alloc (.cells #[.int .i64 0, .int .i64 0, .int .i64 0, .int .i64 (-1), .int .i64 0, .slice none 0 0, .slice none 0 0, .int .i64 0, .slice none 0 0] 32)) (w.heap.size + 1 + 1) (wordsR s) true rul0 ∧ (((w.alloc (.cells #[.int .i64 0, .int .i64 0, .int .i64 0, .int .i64 0, .int .i64 0, .slice none 0 0, .slice none 0 0, .int .i64 0, .slice none 0 0] 32)).alloc (.cells ((wordsR s).map Value.string).toArray 9)).alloc (.cells #[.slice (some ⟨w.heap.size + 1, 0, none⟩) (wordsR s).length (wordsR s).length, .bool true] 69)).heap.size = w.heap.size + 1 + 1 + 1 ∧ Below w.heap.size w (((w.alloc (.cells #[.int .i64 0, .int .i64 0, .int .i64 0, .int .i64 0, .int .i64 0, .slice none 0 0, .slice none 0 0, .int .i64 0, .slice none 0 0] 32)).alloc (.cells ((wordsR s).map Value.string).toArray 9)).alloc (.cells #[.slice (some ⟨w.heap.size + 1, 0, none⟩) (wordsR s).length (wordsR s).length, .bool true] 69)) ∧ Blk (((w.alloc (.cells #[.int .i64 0, .int .i64 0, .int .i64 0, .int .i64 0, .int .i64 0, .slice none 0 0, .slice none 0 0, .int .i64 0, .slice none 0 0] 32)).alloc (.cells ((wordsR s).map Value.string).toArray 9)).alloc (.cells #[.slice (some ⟨w.heap.size + 1, 0, none⟩) (wordsR s).length (wordsR s).length, .bool true] 69)) w.heap.size 32 #[.int .i64 0, .int .i64 0, .int .i64 0, .int .i64 0, .int .i64 0, .slice none 0 0, .slice none 0 0, .int .i64 0, .slice none 0 0] := by
  have hs : (((w.alloc (.cells #[.int .i64 0, .int .i64 0, .int .i64 0, .int .i64 0, .int .i64 0, .slice none 0 0, .slice none 0 0, .int .i64 0, .slice none 0 0] 32)).alloc (.cells ((wordsR s).map Value.string).toArray 9)).alloc (.cells #[.slice (some ⟨w.heap.size + 1, 0, none⟩) (wordsR s).length (wordsR s).length, .bool true] 69)).heap.size = w.heap.size + 1 + 1 + 1 := by simp only [World.size_alloc]
  have hb : Below w.heap.size w (((w.alloc (.cells #[.int .i64 0, .int .i64 0, .int .i64 0, .int .i64 0, .int .i64 0, .slice none 0 0, .slice none 0 0, .int .i64 0, .slice none 0 0] 32)).alloc (.cells ((wordsR s).map Value.string).toArray 9)).alloc (.cells #[.slice (some ⟨w.heap.size + 1, 0, none⟩) (wordsR s).length (wordsR s).length, .bool true] 69)) := (by repeat (first | exact Below.refl _ _ | with_reducible refine bl_plus ?_ | with_reducible refine bl_alloc ?_ _ | with_reducible refine bl_drew ?_ | with_reducible refine bl_drewN ?_ _))
  have hz : Blk (((w.alloc (.cells #[.int .i64 0, .int .i64 0, .int .i64 0, .int .i64 0, .int .i64 0, .slice none 0 0, .slice none 0 0, .int .i64 0, .slice none 0 0] 32)).alloc (.cells ((wordsR s).map Value.string).toArray 9)).alloc (.cells #[.slice (some ⟨w.heap.size + 1, 0, none⟩) (wordsR s).length (wordsR s).length, .bool true] 69)) w.heap.size 32 #[.int .i64 0, .int .i64 0, .int .i64 0, .int .i64 0, .int .i64 0, .slice none 0 0, .slice none 0 0, .int .i64 0, .slice none 0 0] := ((Blk.new w _ _).alloc _).alloc _
  have hr : Blk (((w.alloc (.cells #[.int .i64 0, .int .i64 0, .int .i64 0, .int .i64 0, .int .i64 0, .slice none 0 0, .slice none 0 0, .int .i64 0, .slice none 0 0] 32)).alloc (.cells ((wordsR s).map Value.string).toArray 9)).alloc (.cells #[.slice (some ⟨w.heap.size + 1, 0, none⟩) (wordsR s).length (wordsR s).length, .bool true] 69)) (w.heap.size + 1) 9 ((wordsR s).map Value.string).toArray := by
    have := (Blk.new (w.alloc (.cells #[.int .i64 0, .int .i64 0, .int .i64 0, .int .i64 0, .int .i64 0, .slice none 0 0, .slice none 0 0, .int .i64 0, .slice none 0 0] 32)) 9 ((wordsR s).map Value.string).toArray).alloc (.cells #[.slice (some ⟨w.heap.size + 1, 0, none⟩) (wordsR s).length (wordsR s).length, .bool true] 69)
    rwa [World.size_alloc] at this
  have hp : Blk (((w.alloc (.cells #[.int .i64 0, .int .i64 0, .int .i64 0, .int .i64 0, .int .i64 0, .slice none 0 0, .slice none 0 0, .int .i64 0, .slice none 0 0] 32)).alloc (.cells ((wordsR s).map Value.string).toArray 9)).alloc (.cells #[.slice (some ⟨w.heap.size + 1, 0, none⟩) (wordsR s).length (wordsR s).length, .bool true] 69)) (w.heap.size + 1 + 1) 69 #[.slice (some ⟨w.heap.size + 1, 0, none⟩) (wordsR s).length (wordsR s).length, .bool true] := by
    have := Blk.new ((w.alloc (.cells #[.int .i64 0, .int .i64 0, .int .i64 0, .int .i64 0, .int .i64 0, .slice none 0 0, .slice none 0 0, .int .i64 0, .slice none 0 0] 32)).alloc (.cells ((wordsR s).map Value.string).toArray 9)) 69 #[.slice (some ⟨w.heap.size + 1, 0, none⟩) (wordsR s).length (wordsR s).length, .bool true]
    rwa [World.size_alloc, World.size_alloc] at this
  have hx := Blk.new (((w.alloc (.cells #[.int .i64 0, .int .i64 0, .int .i64 0, .int .i64 0, .int .i64 0, .slice none 0 0, .slice none 0 0, .int .i64 0, .slice none 0 0] 32)).alloc (.cells ((wordsR s).map Value.string).toArray 9)).alloc (.cells #[.slice (some ⟨w.heap.size + 1, 0, none⟩) (wordsR s).length (wordsR s).length, .bool true] 69)) 32 #[.int .i64 0, .int .i64 0, .int .i64 0, .int .i64 (-1), .int .i64 0, .slice none 0 0, .slice none 0 0, .int .i64 0, .slice none 0 0]
  have hl := words_len s h
  have hwz := words_size s h
  generalize (((w.alloc (.cells #[.int .i64 0, .int .i64 0, .int .i64 0, .int .i64 0, .int .i64 0, .slice none 0 0, .slice none 0 0, .int .i64 0, .slice none 0 0] 32)).alloc (.cells ((wordsR s).map Value.string).toArray 9)).alloc (.cells #[.slice (some ⟨w.heap.size + 1, 0, none⟩) (wordsR s).length (wordsR s).length, .bool true] 69)) = w0 at *
  have hb2 : Below w0.heap.size w0 (w0.alloc (.cells #[.int .i64 0, .int .i64 0, .int .i64 0, .int .i64 (-1), .int .i64 0, .slice none 0 0, .slice none 0 0, .int .i64 0, .slice none 0 0] 32)) := bl_alloc (Below.refl _ _) _
  refine ⟨⟨⟨⟨w.heap.size + 1, 0, (wordsR s).length, hp.alloc _, by omega, by omega, Nat.le_refl _, by omega, fun k hk => ?_⟩, by omega, by rw [World.size_alloc]; omega, hwz⟩, ⟨none, none, none, 0, 0, 0, hx, IR.nil, IR.nil, IR.nil, fun _ => ⟨rfl, rfl⟩, fun _ => ⟨rfl, rfl⟩, fun _ => ⟨rfl, rfl⟩⟩, Trn.of_below hb2⟩, hs, hb, hz⟩
  rw [Nat.zero_add, (hr.alloc _).cell k]
  simp [hk]
theorem goes_unit {O : Option Rul} {b : Bool} {L : List ByteArray} {r : Rul} (h : Goes O (!b) (P1 L r)) : Goes O (!(b && !L.isEmpty)) (match un r.e (L.headD ⟨#[]⟩) with | some k => P2 L.tail { r with u := k } | none => none) := by
  unfold Goes P1 at *
  cases L <;> cases b <;> exact h
theorem goes_cR {O : Option Rul} {b : Bool} {L : List ByteArray} {r : Rul} {k : Int} (h : Goes O (!b) (P5c L { r with c := k })) : Goes O (!(b && (k != 0))) (P5 L { r with c := k }) := by
  unfold Goes P5c at *
  by_cases hk : k = 0
  · subst hk
    cases b <;> exact h
  · have h2 : (k != 0) = true := bne_iff_ne.2 hk
    rw [h2]
    simp only [if_neg hk] at h
    cases b <;> exact h
theorem unitAt_size {k : Nat} (h : k < 4) : (unitAt k).size ≤ 5 := by
  have h1 : ∀ i : Fin 4, (unitAt i).size ≤ 5 := by decide
  exact h1 ⟨k, h⟩
theorem res_cell2 {P : Program} {fn : Func} {p u : Tmp} {ty : TypeId} (h : fn.results = #[.cell p ty, .tmp u]) (tmps : Array Value) (w : World) (g : Nat) (t : TypeId) (cs : Array Value) (fr : Nat × Nat) (d : TypeDesc)
    (hp : tmps.getD p undef = .pointer (some ⟨g, 0, none⟩)) (hg : w.heap[g]? = some (.cells cs t fr)) (hu : P.underlying ty = some d) (hd : (match d with | .struct _ | .array _ _ => true | _ => false) = true) (hi : (P.info? ty).map (·.size) = some cs.size) :
    (results fn tmps).run P w = .ok (.tuple #[.agg cs, tmps.getD u undef]) w := by
  rw [results_cell_tmp h, hp]
  simp [asAddr, Result.andThen, run_loadVar_row w g t ty cs fr d hg hu hd hi]
theorem IR.plus_ {w : World} {lo : Nat} {A : Option Addr} {l : List Int} {os : Array Obj} {n : Nat} (h : IR w lo A l) : IR (plus w os n) lo A l := h.keep (by rw [plus_size]; omega) fun b _ h2 => plus_heap h2
theorem IR.setl {w : World} {lo g i : Nat} {A : Option Addr} {l : List Int} {v : Value} (h : IR w lo A l) (hg : g < lo) : IR (w.setCell ⟨g, i, none⟩ v) lo A l :=
  h.keep (by simp [World.setCell]) fun b h1 _ => Below.heap_setCell w _ v b (by simp only; omega)
theorem goes_end {O : Option Rul} {f : Bool} {L : List ByteArray} {r : Rul} (h : Goes O (!f) (P8 L r)) : ((!f || !L.isEmpty) = true → O = none) ∧ ((!f || !L.isEmpty) = false → O = some r) := by
  unfold Goes P8 at h
  cases f <;> cases L <;> simp at h ⊢ <;> exact h
theorem p8_none {L : List ByteArray} {r : Rul} (h : L ≠ []) : P8 L r = none := if_neg h
theorem p7_none {L : List ByteArray} {r : Rul} (h : L ≠ []) (h2 : tkB wSkip L = false) : P7 L r = none := by
  unfold P7
  rw [if_neg (by rw [h2]; decide)]
  exact p8_none h
theorem RLda.trn0 {w0 W w : World} {p : Nat} {R : List ByteArray} {f : Bool} {r : Rul} {done : List Int} {A : Option Addr} {c : Nat} (h : RLda w0 W w p R f r done A c) : Trn p w0 w :=
  ⟨h.two.os.trans h.trn.os, h.two.tape.trans h.trn.tape, h.two.output.trans h.trn.output, Nat.le_trans h.trn.size h.two.size, fun b hb hn => (h.two.same b (Nat.lt_of_lt_of_le hb h.trn.size) hn (by omega)).trans (h.trn.same b hb hn)⟩
theorem RLsk.trn0 {w0 W w : World} {p : Nat} {R : List ByteArray} {f : Bool} {r : Rul} {done : List Int} {A : Option Addr} {c : Nat} (h : RLsk w0 W w p R f r done A c) : Trn p w0 w :=
  ⟨h.two.os.trans h.trn.os, h.two.tape.trans h.trn.tape, h.two.output.trans h.trn.output, Nat.le_trans h.trn.size h.two.size, fun b hb hn => (h.two.same b (Nat.lt_of_lt_of_le hb h.trn.size) hn (by omega)).trans (h.trn.same b hb hn)⟩
/-- What it goes on with where all has been right. -/
theorem goes_ifR {O : Option Rul} {b c : Bool} {p : Option Rul} (h : Goes O (!b) (if c = true then p else none)) : Goes O (!(b && c)) p := by
  unfold Goes at *
  cases b <;> cases c <;> exact h
theorem goes_fromR {O : Option Rul} {b : Bool} {u : Int} {L : List ByteArray} {r : Rul} {x : Option Int} (h : Goes O (!b) (match x with | some k => P2 L { r with u := k } | none => none)) (hx : x = if 0 < u then some u else none) : Goes O (!(b && (decide (0 < u) && tkB wFrom L))) (P2a (tkL wFrom L) { r with u := u }) := by
  subst hx
  unfold Goes tkL at *
  by_cases hu : 0 < u
  · rw [if_pos hu] at h
    rw [decide_eq_true hu]
    unfold P2 at h
    cases b
    · exact h
    · cases hc : tkB wFrom L
      · rw [hc] at h; exact h
      · rw [hc] at h; exact h
  · rw [if_neg hu] at h
    rw [decide_eq_false hu]
    cases b <;> exact h

set_option maxHeartbeats 6400000 in
set_option maxRecDepth 100000 in
theorem readRuleOf_any (s : ByteArray) (w : World) (hm : MaxTold w) (bu ou cu bs os' cs : Nat) (hU : StrsTab w 0 bu ou cu unitsL) (hS : StrsTab w 1 bs os' cs wdaysL) (PO : Ending → World → Prop)
    (hPO : ∀ (w' : World) (v : Value), RulAt w' (readR s).1 v → Below w.heap.size w w' → PO (.returned (.tuple #[v, .int .i64 (readR s).2])) w') :
    Calls Tryz.prog 13 #[.string s] w PO := by
  have HPO := hide hPO
  have HM := hide hm
  have HU := hide hU
  have HS := hide hS
  clear hPO hm hU hS
  by_cases h1 : 2000 < s.size
  · have hr : readR s = (rulZ, 4) := if_pos h1
    rw [hr] at HPO
    go_enter Tryz.func13, Tryz.ntmps13
    go_wp2
    go_returns
    exact HPO.out _ _ ⟨⟨none, none, none, 0, 0, 0, rfl, IntsAt.nil, IntsAt.nil, IntsAt.nil, by decide, by decide, by decide⟩⟩ (by repeat (first | exact Below.refl _ _ | refine bl_plus ?_ | refine bl_alloc ?_ _ | refine bl_drew ?_))
  · have hsp := fun w hm => Tryz.split_any s ⟨#[32]⟩ w hm (by omega) (by decide)
    have hwl := wordsR_len s
    rw [← hwl] at hsp
    change ∀ w, MaxTold w → Calls Tryz.prog 26 #[.string s, .string ⟨#[32]⟩] w (fun e w' => e = .returned (.slice (some ⟨w.heap.size, 0, none⟩) (wordsR s).length (wordsR s).length) ∧ w' = w.alloc (.cells ((wordsR s).map Value.string).toArray 9)) at hsp
    have HSP := hide hsp
    clear hsp hwl
    obtain ⟨r0, hsz, hbw, hres⟩ := RR.start0 s w (by omega)
    have hrs : readR s = (match parseR (wordsR s) with | some r => if r.err = 0 then (r, 0) else (rulZ, r.err) | none => (rulZ, 8)) := if_neg h1
    rw [hrs] at HPO
    have G0 := hide (goes_start (wordsR s))
    have hHW : Hid (∀ w', Trn (w.heap.size + 1 + 1) (((w.alloc (.cells #[.int .i64 0, .int .i64 0, .int .i64 0, .int .i64 0, .int .i64 0, .slice none 0 0, .slice none 0 0, .int .i64 0, .slice none 0 0] 32)).alloc (.cells ((wordsR s).map Value.string).toArray 9)).alloc (.cells #[.slice (some ⟨w.heap.size + 1, 0, none⟩) (wordsR s).length (wordsR s).length, .bool true] 69)) w' → Below w.heap.size w w' ∧ Blk w' w.heap.size 32 #[.int .i64 0, .int .i64 0, .int .i64 0, .int .i64 0, .int .i64 0, .slice none 0 0, .slice none 0 0, .int .i64 0, .slice none 0 0]) := hide (fun w' ht => ⟨ht.below (by omega) hbw (by rw [hsz]; omega), ht.blk hres (by omega)⟩)
    have R0 := hide r0
    clear r0 hrs hres hbw
    go_enter Tryz.func13, Tryz.ntmps13
    go_upto_region 5 with (go_at_call 26; refine (HSP.out _ (maxTold_below HM.out (by repeat (first | exact Below.refl _ _ | refine bl_plus ?_ | refine bl_alloc ?_ _ | refine bl_drew ?_)))).mono ?_; rintro e w' ⟨rfl, rfl⟩)
    clear HSP h1
    generalize (((w.alloc (.cells #[.int .i64 0, .int .i64 0, .int .i64 0, .int .i64 0, .int .i64 0, .slice none 0 0, .slice none 0 0, .int .i64 0, .slice none 0 0] 32)).alloc (.cells ((wordsR s).map Value.string).toArray 9)).alloc (.cells #[.slice (some ⟨w.heap.size + 1, 0, none⟩) (wordsR s).length (wordsR s).length, .bool true] 69)).alloc (.cells #[.int .i64 0, .int .i64 0, .int .i64 0, .int .i64 (-1), .int .i64 0, .slice none 0 0, .slice none 0 0, .int .i64 0, .slice none 0 0] 32) = WX at *
    generalize (((w.alloc (.cells #[.int .i64 0, .int .i64 0, .int .i64 0, .int .i64 0, .int .i64 0, .slice none 0 0, .slice none 0 0, .int .i64 0, .slice none 0 0] 32)).alloc (.cells ((wordsR s).map Value.string).toArray 9)).alloc (.cells #[.slice (some ⟨w.heap.size + 1, 0, none⟩) (wordsR s).length (wordsR s).length, .bool true] 69)) = w0 at *
    generalize hgg : w.heap.size + 1 + 1 + 1 = gx at *
    subst hsz
    generalize hpp : w.heap.size + 1 + 1 = p at *
    generalize wordsR s = L0 at *
    generalize parseR L0 = O at *
    have hpw : p < w0.heap.size := by omega
    have hpg : ¬ p = w0.heap.size := by omega
    have hpg2 : ¬ w0.heap.size = p := by omega
    have hwp : w.heap.size < w0.heap.size := by omega
    have hne1 : ¬ w.heap.size = p := by omega
    have hne2 : ¬ w.heap.size = w0.heap.size := by omega
    clear hgg hpp
    have HUX := hide (fun w' ht => HU.out.below (hHW.out w' ht).1)
    have HSX := hide (fun w' ht => HS.out.below (hHW.out w' ht).1)
    have HMX := hide (fun w' ht => maxTold_below HM.out (hHW.out w' ht).1)
    clear HU HS HM
    have HNU := hide (fun W L f (h : Rd 69 W p w0.heap.size L f) => numberR_any p w0.heap.size L f W h)
    have HDA := hide (fun W L f (h : Rd 69 W p w0.heap.size L f) (ht : Trn p w0 W) => dateR_any p w0.heap.size L f W h (fun w' hw => HMX.out w' (ht.trans hw)))
    go_upto_region 8 with (first
      | (go_at_call 29; with_reducible refine (is_wEvery _ _ _ _ _ R0.out.rd).mono ?_; rintro e WA ⟨rfl, hrd, htr⟩; (try clear a1 a2 a3 a4 a5 a6 a7 a8 a9 a10 a11 a12); obtain ⟨a1, a2, a3, a4, a5, a6, a7, a8, a9, a10, a11, a12⟩ := (R0.out.call hrd htr).at_; have RA := hide ((R0.out.call hrd htr).flag (tkB wEvery L0)); clear hrd htr)
      | (go_at_call 30; with_reducible refine (HNU.out _ _ _ RA.out.rd).mono ?_; rintro e WB ⟨kB, rfl, hrd, htr, hk⟩; (try clear a1 a2 a3 a4 a5 a6 a7 a8 a9 a10 a11 a12); obtain ⟨a1, a2, a3, a4, a5, a6, a7, a8, a9, a10, a11, a12⟩ := (RA.out.call hrd htr).at_; have RB := hide ((RA.out.call hrd htr).set_e kB); have GB : Hid (Goes O (!((tkB wEvery L0) && (rdO nm (tkL wEvery L0)).isSome)) (P1 (tkL wEvery L0).tail { rul0 with e := kB })) := hide (goes_readR (b := (tkB wEvery L0)) (o := rdO nm (tkL wEvery L0)) (P := fun k => P1 (tkL wEvery L0).tail { rul0 with e := k }) G0.out kB hk); clear hrd htr hk; generalize (tkL wEvery L0).tail = LT at *; generalize (tkB wEvery L0 && (rdO nm (tkL wEvery L0)).isSome) = f2 at *)
      | (go_at_call 31; with_reducible refine (word_any _ _ _ _ _ RB.out.rd).mono ?_; rintro e WC ⟨rfl, hrd, htr⟩; (try clear a1 a2 a3 a4 a5 a6 a7 a8 a9 a10 a11 a12); have RC := hide (RB.out.call hrd htr); have GU := hide (goes_unit GB.out); generalize LT.headD ⟨#[]⟩ = x at *; clear hrd htr))
    clear R0 RA G0 RB
    clear GB
    generalize (f2 && !LT.isEmpty) = f3 at *
    generalize LT.tail = L3 at *
    (try clear a1 a2 a3 a4 a5 a6 a7 a8 a9 a10 a11 a12)
    have GU2 : Hid (Goes O (!f3) (match un kB x with | some k => P2 L3 { ({ rul0 with e := kB } : Rul) with u := k } | none => none)) := GU
    clear GU
    obtain ⟨a1, a2, a3, a4, a5, a6, a7, a8, a9, a10, a11, a12⟩ := RC.out.at_
    have g1 := (HUX.out _ RC.out.trn).top
    rw [show unitsL.length = 4 from rfl] at g1
    go_upto_block 0 with fail
    go_cut [] from 33 to 60 (fun wx => ∃ (Wx : World), Wx = wx ∧ Hid (RR w0 Wx p L3 f3 { ({ rul0 with e := kB } : Rul) with u := uUp kB x 4 }))
    case first =>
      have R00 : Hid (RR w0 WC p L3 f3 { ({ rul0 with e := kB } : Rul) with u := uUp kB x 0 }) := RC
      clear RC GU2
      go_wp2_with fail
      go_loopw [33] (fun v wr => ∃ k : Nat, k ≤ 4 ∧ v = .int .i64 k ∧ Hid (RR w0 wr p L3 f3 { ({ rul0 with e := kB } : Rul) with u := uUp kB x k })) (fun v _ => 4 - (intOf v).toNat)
      case atStart => exact ⟨0, by omega, rfl, R00⟩
      case round =>
        clear R00 g1
        (try clear a1 a2 a3 a4 a5 a6 a7 a8 a9 a10 a11 a12)
        obtain ⟨k, hk, rfl, RK⟩ := hrel
        obtain ⟨a1, a2, a3, a4, a5, a6, a7, a8, a9, a10, a11, a12⟩ := RK.out.at_
        have ST := HUX.out _ RK.out.trn
        by_cases hlt : k < 4
        · have d0 : wr.cell? ⟨bu, ou + k, none⟩ = some (.string (unitAt k)) := (ST.at_ k hlt).trans (by unfold unitAt; rw [List.getD_eq_getElem?_getD, List.getElem?_eq_getElem (show k < unitsL.length from hlt)]; rfl)
          have g3 := ST.lt
          have hsz := unitAt_size hlt
          have hup : uUp kB x (k + 1) = if mU kB x (unitAt k) then (k : Int) + 1 else uUp kB x k := rfl
          have hmd : mU kB x (unitAt k) ↔ (x = unitAt k ∧ kB = 1) ∨ (x = unitAt k ++ wS ∧ kB ≠ 1) := Iff.rfl
          have HUP := hide hup
          have HMD := hide hmd
          have i1 : (k : Int) < 4 := by omega
          have hsz2 : ((unitAt k).size : Int) ≤ 5 := by omega
          clear hup hmd ST hsz
          skip
          have hcase : ((x.toList == (unitAt k).toList) = true ∧ x = unitAt k) ∨ ((x.toList == (unitAt k).toList) = false ∧ x ≠ unitAt k) := by
            by_cases h : x = unitAt k
            · exact .inl ⟨(Lib.bytes_beq_iff _ _).2 h, h⟩
            · exact .inr ⟨lit_ne h, h⟩
          have hcas2 : ((x.toList == (unitAt k ++ (⟨#[115]⟩ : ByteArray)).toList) = true ∧ x = unitAt k ++ wS) ∨ ((x.toList == (unitAt k ++ (⟨#[115]⟩ : ByteArray)).toList) = false ∧ x ≠ unitAt k ++ wS) := by
            by_cases h : x = unitAt k ++ wS
            · exact .inl ⟨(Lib.bytes_beq_iff _ _).2 h, h⟩
            · exact .inr ⟨lit_ne h, h⟩
          generalize unitAt k = w1 at *
          rcases hcase with ⟨b1, c1⟩ | ⟨b1, c1⟩ <;> rcases hcas2 with ⟨b2, c2⟩ | ⟨b2, c2⟩ <;> rcases (by omega : kB = 1 ∨ kB ≠ 1) with he | he
          all_goals
            first
              | have he1 : (kB == 1) = true := by rw [he]; rfl
              | have he1 : (kB == 1) = false := beq_eq_false_iff_ne.2 he
            first
              | have he2 : (kB != 1) = true := bne_iff_ne.2 he
              | have he2 : (kB != 1) = false := by rw [he]; rfl
            have HC1 := hide c1
            have HC2 := hide c2
            have HE := hide he
            clear c1 c2
            go_wp2
            go_roundw
            case rel =>
              refine ⟨k + 1, by omega, by go_num, ?_⟩
              rw [HUP.out]
              first
                | (rw [if_pos (HMD.out.2 (.inl ⟨HC1.out, HE.out⟩))]; exact hide (RK.out.set_u _))
                | (rw [if_pos (HMD.out.2 (.inr ⟨HC2.out, HE.out⟩))]; exact hide (RK.out.set_u _))
                | (rw [if_neg (fun hm => by rcases HMD.out.1 hm with ⟨u1, u2⟩ | ⟨u1, u2⟩; (first | exact HC1.out u1 | exact HE.out u2); (first | exact HC2.out u1 | exact u2 HE.out))]; exact RK)
            case measure => simp [intOf]; omega
        · obtain rfl : k = 4 := by omega
          go_wp2
          go_meet
          exact ⟨_, rfl, RK⟩
    case rest =>
      clear RC
      obtain ⟨WD, rfl, RD⟩ := hcut
      obtain ⟨a1, a2, a3, a4, a5, a6, a7, a8, a9, a10, a11, a12⟩ := RD.out.at_
      have HUN := hide (un_up kB x)
      generalize uUp kB x 4 = U at *
      generalize un kB x = UO at *
      have GF := hide (goes_fromR GU2.out HUN.out)
      clear GU2 HUN
      go_upto_region 14 with fail
      go_cut [] from 61 to 76 (fun wx => ∃ (W : World) (L : List ByteArray) (f : Bool) (r : Rul), W = wx ∧ Hid (RR w0 W p L f r) ∧ Hid (Goes O (!f) (P2a L r)) ∧ (r.wd = [] ∧ r.da = [] ∧ r.sk = []))
      case first =>
        rcases (by omega : 0 < U ∨ ¬ 0 < U) with hu | hu
        · cases f3
          · go_wp2
            go_meet
            exact ⟨_, L3, false, _, rfl, hide (RD.out.flag false), hide (Goes.bad GF.out), rfl, rfl, rfl⟩
          · go_wp2_with (go_at_call 29; with_reducible refine (is_wFrom _ _ _ _ _ RD.out.rd).mono ?_; rintro e WE ⟨rfl, hrd, htr⟩; (try clear a1 a2 a3 a4 a5 a6 a7 a8 a9 a10 a11 a12); obtain ⟨a1, a2, a3, a4, a5, a6, a7, a8, a9, a10, a11, a12⟩ := (RD.out.call hrd htr).at_; have RE := hide (RD.out.call hrd htr); clear hrd htr)
            go_meet
            rw [decide_eq_true hu] at GF
            exact ⟨_, tkL wFrom L3, tkB wFrom L3, _, rfl, hide (RE.out.flag _), GF, rfl, rfl, rfl⟩
        · rw [decide_eq_false hu] at GF
          have GF2 : Hid (Goes O true (P2a (tkL wFrom L3) { ({ rul0 with e := kB } : Rul) with u := U })) := by cases f3 <;> exact GF
          cases f3
          all_goals
            go_wp2
            go_meet
            exact ⟨_, L3, false, _, rfl, hide (RD.out.flag false), hide (Goes.bad GF2.out), rfl, rfl, rfl⟩
      case rest =>
        clear RD GF
        obtain ⟨WB, LB, fB, rB, rfl, RB, GB, hE⟩ := hcut
        go_upto_if 81 with (first | (go_at_call 32; with_reducible refine (HDA.out _ _ _ RB.out.rd RB.out.trn).mono ?_; rintro e WC ⟨kC, rfl, hrd, htr, hk⟩; (try clear a1 a2 a3 a4 a5 a6 a7 a8 a9 a10 a11 a12); obtain ⟨a1, a2, a3, a4, a5, a6, a7, a8, a9, a10, a11, a12⟩ := (RB.out.call hrd htr).at_; have RC := hide ((RB.out.call hrd htr).set_f kC); have GC : Hid (Goes O (!(fB && (rdO dt LB).isSome)) (P3 LB.tail { rB with f := kC })) := hide (goes_readR (b := fB) (o := rdO dt LB) (P := fun k => P3 LB.tail { rB with f := k }) GB.out kC hk); clear hrd htr hk) | (go_at_call 29; with_reducible refine (is_wUntil _ _ _ _ _ RC.out.rd).mono ?_; rintro e WD ⟨rfl, hrd, htr⟩; (try clear a1 a2 a3 a4 a5 a6 a7 a8 a9 a10 a11 a12); obtain ⟨a1, a2, a3, a4, a5, a6, a7, a8, a9, a10, a11, a12⟩ := (RC.out.call hrd htr).at_; have RD := hide (RC.out.call hrd htr); clear hrd htr))
        have hE2 : ({ rB with f := kC } : Rul).wd = [] ∧ ({ rB with f := kC } : Rul).da = [] ∧ ({ rB with f := kC } : Rul).sk = [] := hE
        generalize ({ rB with f := kC } : Rul) = rC at *
        generalize (fB && (rdO dt LB).isSome) = fC at *
        generalize LB.tail = LC at *
        have HO := hide (goes_optR (b := !fC) (s := wUntil) (L := LC) (P := fun L => P3a L rC) (Q := fun L => P4 L rC) GC.out)
        generalize tkB wUntil LC = bd at *
        generalize tkL wUntil LC = LD at *
        clear GC
        clear RB GB RC hE
        (try clear a1 a2 a3 a4 a5 a6 a7 a8 a9 a10 a11 a12)
        go_cut [] from 82 to 84 (fun wx => ∃ (W : World) (L : List ByteArray) (f : Bool) (r : Rul), W = wx ∧ Hid (RR w0 W p L f r) ∧ Hid (Goes O (!f) (P4 L r)) ∧ (r.wd = [] ∧ r.da = [] ∧ r.sk = []))
        case first =>
          obtain ⟨a1, a2, a3, a4, a5, a6, a7, a8, a9, a10, a11, a12⟩ := RD.out.at_
          cases bd
          · go_wp2
            go_meet
            exact ⟨_, LD, fC, rC, rfl, RD, hide (HO.out.2 (by trivial)), hE2⟩
          · have GD := hide (HO.out.1 (by trivial))
            go_wp2_with (go_at_call 32; with_reducible refine (HDA.out _ _ _ RD.out.rd RD.out.trn).mono ?_; rintro e WE ⟨kE, rfl, hrd, htr, hk⟩; (try clear a1 a2 a3 a4 a5 a6 a7 a8 a9 a10 a11 a12); obtain ⟨a1, a2, a3, a4, a5, a6, a7, a8, a9, a10, a11, a12⟩ := (RD.out.call hrd htr).at_; have RE := hide ((RD.out.call hrd htr).set_t kE); have GE : Hid (Goes O (!(fC && (rdO dt LD).isSome)) (P4 LD.tail { rC with t := kE })) := hide (goes_readR (b := fC) (o := rdO dt LD) (P := fun k => P4 LD.tail { rC with t := k }) GD.out kE hk); clear hrd htr hk)
            go_meet
            exact ⟨_, _, _, _, rfl, RE, GE, hE2⟩
        case rest =>
          clear RD HO
          obtain ⟨WB, LB, fB, rB, rfl, RB, GB, hE⟩ := hcut
          obtain ⟨a1, a2, a3, a4, a5, a6, a7, a8, a9, a10, a11, a12⟩ := RB.out.at_
          go_upto_if 86 with (go_at_call 29; with_reducible refine (is_wTimes _ _ _ _ _ RB.out.rd).mono ?_; rintro e WD ⟨rfl, hrd, htr⟩; (try clear a1 a2 a3 a4 a5 a6 a7 a8 a9 a10 a11 a12); obtain ⟨a1, a2, a3, a4, a5, a6, a7, a8, a9, a10, a11, a12⟩ := (RB.out.call hrd htr).at_; have RD := hide (RB.out.call hrd htr); clear hrd htr)
          have HO := hide (goes_optR (b := !fB) (s := wTimes) (L := LB) (P := fun L => P4a L rB) (Q := fun L => P5 L rB) GB.out)
          generalize tkB wTimes LB = bd at *
          generalize tkL wTimes LB = LD at *
          clear GB
          clear RB
          (try clear a1 a2 a3 a4 a5 a6 a7 a8 a9 a10 a11 a12)
          go_cut [] from 87 to 101 (fun wx => ∃ (W : World) (L : List ByteArray) (f : Bool) (r : Rul), W = wx ∧ Hid (RR w0 W p L f r) ∧ Hid (Goes O (!f) (P5 L r)) ∧ (r.wd = [] ∧ r.da = [] ∧ r.sk = []))
          case first =>
            obtain ⟨a1, a2, a3, a4, a5, a6, a7, a8, a9, a10, a11, a12⟩ := RD.out.at_
            cases bd
            · go_wp2
              go_meet
              exact ⟨_, LD, fB, rB, rfl, RD, hide (HO.out.2 (by trivial)), hE⟩
            · have GD := hide (goes_times (HO.out.1 (by trivial)))
              go_upto_region 20 with (go_at_call 30; with_reducible refine (HNU.out _ _ _ RD.out.rd).mono ?_; rintro e WE ⟨kE, rfl, hrd, htr, hk⟩; (try clear a1 a2 a3 a4 a5 a6 a7 a8 a9 a10 a11 a12); obtain ⟨a1, a2, a3, a4, a5, a6, a7, a8, a9, a10, a11, a12⟩ := (RD.out.call hrd htr).at_; have RE := hide ((RD.out.call hrd htr).set_c kE); have GE : Hid (Goes O (!(fB && (rdO nm LD).isSome)) (P5c LD.tail { rB with c := kE })) := hide (goes_readR (b := fB) (o := rdO nm LD) (P := fun k => P5c LD.tail { rB with c := k }) GD.out kE hk); clear hrd htr hk)
              have GF := hide (goes_cR GE.out)
              generalize (fB && (rdO nm LD).isSome) = fE at *
              rcases (by omega : kE = 0 ∨ kE ≠ 0) with rfl | hk0
              · cases fE
                all_goals
                  go_wp2
                  go_meet
                  exact ⟨_, LD.tail, false, _, rfl, hide (RE.out.flag false), GF, hE⟩
              · have hk1 : (kE != 0) = true := bne_iff_ne.2 hk0
                rw [hk1] at GF
                cases fE
                · go_wp2
                  go_meet
                  exact ⟨_, LD.tail, false, _, rfl, hide (RE.out.flag false), GF, hE⟩
                · go_wp2
                  go_meet
                  exact ⟨_, LD.tail, true, _, rfl, hide (RE.out.flag true), GF, hE⟩
          case rest =>
            clear RD HO
            obtain ⟨WB, LB, fB, rB, rfl, RB, GB, hE⟩ := hcut
            obtain ⟨a1, a2, a3, a4, a5, a6, a7, a8, a9, a10, a11, a12⟩ := RB.out.at_
            go_upto_if 103 with (go_at_call 29; with_reducible refine (is_wOn _ _ _ _ _ RB.out.rd).mono ?_; rintro e WD ⟨rfl, hrd, htr⟩; (try clear a1 a2 a3 a4 a5 a6 a7 a8 a9 a10 a11 a12); obtain ⟨a1, a2, a3, a4, a5, a6, a7, a8, a9, a10, a11, a12⟩ := (RB.out.call hrd htr).at_; have RD := hide (RB.out.call hrd htr); clear hrd htr)
            have HO := hide (goes_optR (b := !fB) (s := wOn) (L := LB) (P := fun L => P5a L rB) (Q := fun L => P6 L rB) GB.out)
            generalize tkB wOn LB = bd at *
            generalize tkL wOn LB = LD at *
            clear GB
            clear RB
            (try clear a1 a2 a3 a4 a5 a6 a7 a8 a9 a10 a11 a12)
            go_cut [] from 104 to 105 (fun wx => ∃ (W : World) (L : List ByteArray) (f : Bool) (r : Rul), W = wx ∧ Hid (RR w0 W p L f r) ∧ Hid (Goes O (!f) (P6 L r)) ∧ (r.da = [] ∧ r.sk = []))
            case first =>
              obtain ⟨a1, a2, a3, a4, a5, a6, a7, a8, a9, a10, a11, a12⟩ := RD.out.at_
              cases bd
              · go_wp2
                go_meet
                exact ⟨_, LD, fB, rB, rfl, RD, hide (HO.out.2 (by trivial)), hE.2⟩
              · have GD := hide (HO.out.1 (by trivial))
                go_wp2_with (go_at_call 33; refine weekdays_any w0 _ p LD fB rB O RD.out hE.1 GD.out bs os' cs HSX.out _ ?_; intro W9 L9 f9 r9 hrr hgg hd9 hs9)
                go_meet
                exact ⟨W9, L9, f9, r9, rfl, hide hrr, hide hgg, hd9.trans hE.2.1, hs9.trans hE.2.2⟩
            case rest =>
              clear RD HO
              obtain ⟨WB, LB, fB, rB, rfl, RB, GB, hE⟩ := hcut
              obtain ⟨a1, a2, a3, a4, a5, a6, a7, a8, a9, a10, a11, a12⟩ := RB.out.at_
              go_upto_if 107 with (go_at_call 29; with_reducible refine (is_wDates _ _ _ _ _ RB.out.rd).mono ?_; rintro e WD ⟨rfl, hrd, htr⟩; (try clear a1 a2 a3 a4 a5 a6 a7 a8 a9 a10 a11 a12); obtain ⟨a1, a2, a3, a4, a5, a6, a7, a8, a9, a10, a11, a12⟩ := (RB.out.call hrd htr).at_; have RD := hide (RB.out.call hrd htr); clear hrd htr)
              have HO := hide (goes_optR (b := !fB) (s := wDates) (L := LB) (P := fun L => (fun L r => if (spn nm L).1 = [] then none else P7 (spn nm L).2 { r with da := (spn nm L).1 }) L rB) (Q := fun L => P7 L rB) GB.out)
              generalize tkB wDates LB = bd at *
              generalize tkL wDates LB = LD at *
              clear GB
              clear RB
              (try clear a1 a2 a3 a4 a5 a6 a7 a8 a9 a10 a11 a12)
              go_cut [] from 108 to 136 (fun wx => ∃ (W : World) (L : List ByteArray) (f : Bool) (r : Rul), W = wx ∧ Hid (RR w0 W p L f r) ∧ Hid (Goes O (!f) (P7 L r)) ∧ r.sk = [])
              case first =>
                obtain ⟨a1, a2, a3, a4, a5, a6, a7, a8, a9, a10, a11, a12⟩ := RD.out.at_
                cases bd
                · go_wp2
                  go_meet
                  exact ⟨_, LD, fB, rB, rfl, RD, hide (HO.out.2 (by trivial)), hE.2⟩
                · have GD : Hid (Goes O (!fB) (if (spn nm LD).1 = [] then none else (fun R l => P7 R { rB with da := l }) (spn nm LD).2 (spn nm LD).1)) := hide (HO.out.1 (by trivial))
                  have RL0 := hide (RLda.start RD.out hE.1)
                  have LS0 : Hid (Lst nm O fB fB LD LD []) := hide (Lst.start (goes_out (Q := fun R l => P7 R { rB with da := l }) GD.out))
                  obtain ⟨i0, hi, hz0, hz1, hz2⟩ := info_parts info_int
                  have HI := hide (⟨hi, hz0, hz1, hz2⟩ : _ ∧ _ ∧ _ ∧ _)
                  have hlen := RD.out.len
                  clear hi hz0 hz1 hz2 HO RD
                  (try clear a1 a2 a3 a4 a5 a6 a7 a8 a9 a10 a11 a12)
                  go_wp2_with fail
                  go_loopw [9] (fun v wr => ∃ (m : Bool) (done : List Int) (R : List ByteArray) (A : Option Addr) (c : Nat) (f : Bool), v = .bool m ∧ Hid (RLda w0 WD wr p R f rB done A c) ∧ Hid (Lst nm O fB f LD R done) ∧ (m = true → done = [] ∨ (f = true ∧ R ≠ [] ∧ tkB wSkip R = false)) ∧ (m = false → done ≠ [] ∧ (f = true → rdO nm R = none))) (fun v wr => lenAt wr p + (match v with | .bool true => 1 | _ => 0))
                  case atStart => exact ⟨true, [], LD, none, 0, fB, rfl, RL0, LS0, fun _ => .inl rfl, fun h => by cases h⟩
                  case round =>
                    clear RL0 LS0
                    obtain ⟨m, done, R, A, c, f, rfl, RL, LS, hm1, hm0⟩ := hrel
                    have hdl : done.length ≤ 4294967296 := by rcases LS.out.le with h | ⟨h, _⟩ <;> omega
                    cases m
                    · obtain ⟨hd, hRn⟩ := hm0 rfl
                      have FIN := hide (RL.out.fin (by omega))
                      have GF := hide (LS.out.fin (Q := fun R l => P7 R { rB with da := l }) GD.out hd hRn)
                      clear RL LS hm1 hm0
                      go_wp2
                      go_meet
                      exact ⟨_, R, f, _, rfl, FIN, GF, hE.2⟩
                    · have hm1 := hm1 rfl
                      clear hm0
                      have HLN := hide RL.out.rd.lenAt
                      have HBIG := hide (show (done.length + 1) * i0.bytes ≤ 140737488355328 ∧ done.length + 1 ≤ 140737488355328 by have := HI.out.2.2.2; rw [this]; omega)
                      go_upto_block 3 with fail
                      go_cut [] from 130 to 136 (fun wx => ∃ (w1 : World) (k : Int) (A3 : Option Addr) (c3 : Nat), w1 = wx ∧ Hid (RLda w0 WD w1 p R.tail (f && (rdO nm R).isSome) rB (done ++ [k]) A3 c3) ∧ Hid (∀ n, rdO nm R = some n → k = n))
                      case first =>
                        obtain ⟨a1, a2, a3, a4, a5, a6, a7, a8⟩ := RL.out.at_
                        clear LS hm1 GD HLN
                        go_wp2_with fail
                        go_region_law (first | ((refine step_append_b rfl (.tmp 131) (.tmp 134) rfl rfl Tryz.underlying30 HI.out.1 HI.out.2.1 HI.out.2.2.1 (by decide) rfl (by have := HI.out.2.2.2; omega) WD.heap.size done.length (.slice A done.length c) (done.map (Value.int .i64)) [.int .i64 k] _ rfl (by repeat (first | with_reducible exact RL2.out.own | with_reducible refine ownK_alloc ?_ _ | with_reducible refine ownK_plus ?_ _ _ | with_reducible refine ownK_drew ?_ | with_reducible refine ownK_drewN ?_ _)) rfl (by intro u hu; simp only [List.mem_cons, List.not_mem_nil, or_false] at hu; rcases hu with rfl; rfl) rfl (newN_cells (cs := [.int .i64 k]) (by simp only [World.size_alloc, plus_size, World.drew])) HBIG.out (by simp only [World.size_alloc, plus_size, World.drew]; omega) ?_); (intro v' w1 hown1 hgr1 hfr1); (obtain ⟨A3, c3, rfl, _⟩ := ownK_form hown1); (have hb1 : Below WD.heap.size W2 w1 := (Below.mono (by repeat (first | exact Below.refl _ _ | with_reducible refine bl_plus ?_ | with_reducible refine bl_alloc ?_ _ | with_reducible refine bl_drew ?_ | with_reducible refine bl_drewN ?_ _)) b8).grown hgr1 (by simp only [World.size_alloc, plus_size, World.drew]; omega) (fun k hk => (RL2.out.own.lt k hk).1)); (have RA := hide (RL2.out.app hb1 hown1)); (obtain ⟨_, _, _, _, kb, _⟩ := RL2.out.blk); (have kc := kb.below hb1 RL2.out.low); (have m5 := kc.cell 6); (simp only [List.getElem?_toArray, List.getElem?_cons_succ, List.getElem?_cons_zero] at m5); (have mf := kc.frozen); (have ml := kc.lt); (clear hown1 hgr1 hfr1 hb1 kb kc)) | (go_simp; go_at_call 30; refine (HNU.out _ _ _ (RL.out.rd.below_ (by repeat (first | exact Below.refl _ _ | with_reducible refine bl_plus ?_ | with_reducible refine bl_alloc ?_ _ | with_reducible refine bl_drew ?_ | with_reducible refine bl_drewN ?_ _)))).mono ?_; rintro e W2 ⟨k, rfl, hrd, htr, hk⟩; have RL2 := hide ((RL.out.call (RL.out.rd.below_ (by repeat (first | exact Below.refl _ _ | with_reducible refine bl_plus ?_ | with_reducible refine bl_alloc ?_ _ | with_reducible refine bl_drew ?_ | with_reducible refine bl_drewN ?_ _))) (Trn.of_below (by repeat (first | exact Below.refl _ _ | with_reducible refine bl_plus ?_ | with_reducible refine bl_alloc ?_ _ | with_reducible refine bl_drew ?_ | with_reducible refine bl_drewN ?_ _)))).call hrd htr); obtain ⟨b1, b2, b3, b4, b5, b6, b7, b8⟩ := RL2.out.at_; have HK := hide hk; clear hrd htr hk))
                        all_goals
                          go_wp2_with fail
                          go_meet
                          exact ⟨_, k, A3, c3, rfl, RA, HK⟩
                      case rest =>
                        obtain ⟨w1, k, A3, c3, rfl, RA, HK⟩ := hcut
                        have LS2 := hide (LS.out.step (Q := fun R l => P7 R { rB with da := l }) GD.out (fun hd hf hr l => by rcases hm1 with h | ⟨_, h2, h3⟩; exact absurd h hd; exact p7_none h2 h3) k HK.out (by rcases hm1 with h | h; exact .inr h; exact .inl h.2.1))
                        have hnil : (f && (rdO nm R).isSome) = true → R ≠ [] := fun h e => by subst e; cases f <;> cases h
                        generalize (f && (rdO nm R).isSome) = f2 at *
                        have hlt : (R.length = 0 ∧ R.tail.length = 0) ∨ R.tail.length + 1 = R.length := by cases R <;> simp
                        have hln2 := RA.out.rd.lenAt
                        have HL2 := hide hln2
                        have hn0 : f2 = true → ¬ R.length = 0 := fun h e => hnil h (List.length_eq_zero_iff.1 e)
                        have HN0 := hide hn0
                        have HLT := hide hlt
                        clear RL LS hm1 HK hnil hln2 hn0 hlt
                        obtain ⟨a1, a2, a3, a4, a5, a6, a7, a8⟩ := RA.out.at_
                        obtain ⟨⟨b, o, q, k1, k2, k3, k4, k5, k6⟩, k7, k8, k9⟩ := RA.out.rd
                        have hbb : b < w1.heap.size := by omega
                        have c0 : w1.cell? ⟨p, 0, none⟩ = some (.slice (some ⟨b, o, none⟩) R.tail.length q) := k1.cell 0
                        have hne : done ++ [k] ≠ [] := by simp
                        generalize R.tail = R2 at *
                        cases f2
                        · go_wp2
                          go_roundw
                          case rel => exact ⟨false, done ++ [k], R2, A3, c3, false, rfl, RA, LS2, fun h => (by cases h), fun _ => ⟨hne, fun h => (by cases h)⟩⟩
                          case measure =>
                            rw [HLN.out, HL2.out]
                            have h3 := HLT.out
                            simp
                            omega
                        · cases R2 with
                          | nil =>
                            have c0' : w1.cell? ⟨p, 0, none⟩ = some (.slice (some ⟨b, o, none⟩) 0 q) := c0
                            clear c0 k1 k2 k3 k4 k5 k6 k7 k8 k9
                            go_wp2
                            go_roundw
                            case rel => exact ⟨false, done ++ [k], [], A3, c3, true, rfl, RA, LS2, fun h => (by cases h), fun _ => ⟨hne, fun _ => rfl⟩⟩
                            case measure =>
                              rw [HLN.out, HL2.out]
                              simp
                          | cons y t =>
                            have c0' : w1.cell? ⟨p, 0, none⟩ = some (.slice (some ⟨b, o, none⟩) (t.length + 1) q) := c0
                            have d0 : w1.cell? ⟨b, o, none⟩ = some (.string y) := k6 0 (by simp)
                            clear c0 k1 k2 k3 k4 k5 k6 k7 k8 k9
                            by_cases hy : y = wSkip
                            · subst hy
                              have hb9 : (wSkip.toList == [115, 107, 105, 112]) = true := by rw [show ([115, 107, 105, 112] : List UInt8) = wSkip.toList from by rw [Lib.toList_data]; rfl]; exact beq_self_eq_true _
                              go_wp2
                              go_roundw
                              case rel => exact ⟨false, done ++ [k], wSkip :: t, A3, c3, true, (by first | rfl | (rw [hb9]; rfl)), RA, LS2, fun h => (by cases h), fun _ => ⟨hne, fun _ => rfl⟩⟩
                              case measure =>
                                rw [HLN.out, HL2.out]
                                have h3 := HLT.out
                                have h4 := HN0.out rfl
                                simp [hb9] at h3 ⊢ <;> omega
                            · have hb9 : (y.toList == [115, 107, 105, 112]) = false := by rw [show ([115, 107, 105, 112] : List UInt8) = wSkip.toList from by rw [Lib.toList_data]; rfl]; exact lit_ne hy
                              go_wp2
                              go_roundw
                              case rel => exact ⟨true, done ++ [k], y :: t, A3, c3, true, (by first | rfl | (rw [hb9]; rfl)), RA, LS2, fun _ => .inr ⟨rfl, by simp, decide_eq_false hy⟩, fun h => (by cases h)⟩
                              case measure =>
                                rw [HLN.out, HL2.out]
                                have h3 := HLT.out
                                have h4 := HN0.out rfl
                                simp [hb9] at h3 ⊢ <;> omega
              case rest =>
                clear RD HO
                obtain ⟨WB, LB, fB, rB, rfl, RB, GB, hE⟩ := hcut
                obtain ⟨a1, a2, a3, a4, a5, a6, a7, a8, a9, a10, a11, a12⟩ := RB.out.at_
                go_upto_if 138 with (go_at_call 29; with_reducible refine (is_wSkip _ _ _ _ _ RB.out.rd).mono ?_; rintro e WD ⟨rfl, hrd, htr⟩; (try clear a1 a2 a3 a4 a5 a6 a7 a8 a9 a10 a11 a12); obtain ⟨a1, a2, a3, a4, a5, a6, a7, a8, a9, a10, a11, a12⟩ := (RB.out.call hrd htr).at_; have RD := hide (RB.out.call hrd htr); clear hrd htr)
                have HO := hide (goes_optR (b := !fB) (s := wSkip) (L := LB) (P := fun L => (fun L r => if (spn dt L).1 = [] then none else P8 (spn dt L).2 { r with sk := (spn dt L).1 }) L rB) (Q := fun L => P8 L rB) GB.out)
                generalize tkB wSkip LB = bd at *
                generalize tkL wSkip LB = LD at *
                clear GB
                clear RB
                (try clear a1 a2 a3 a4 a5 a6 a7 a8 a9 a10 a11 a12)
                go_cut [] from 139 to 158 (fun wx => ∃ (W : World) (L : List ByteArray) (f : Bool) (r : Rul), W = wx ∧ Hid (RR w0 W p L f r) ∧ Hid (Goes O (!f) (P8 L r)))
                case first =>
                  obtain ⟨a1, a2, a3, a4, a5, a6, a7, a8, a9, a10, a11, a12⟩ := RD.out.at_
                  cases bd
                  · go_wp2
                    go_meet
                    exact ⟨_, LD, fB, rB, rfl, RD, hide (HO.out.2 (by trivial))⟩
                  · have GD : Hid (Goes O (!fB) (if (spn dt LD).1 = [] then none else (fun R l => P8 R { rB with sk := l }) (spn dt LD).2 (spn dt LD).1)) := hide (HO.out.1 (by trivial))
                    have RL0 := hide (RLsk.start RD.out hE)
                    have LS0 : Hid (Lst dt O fB fB LD LD []) := hide (Lst.start (goes_out (Q := fun R l => P8 R { rB with sk := l }) GD.out))
                    obtain ⟨i0, hi, hz0, hz1, hz2⟩ := info_parts info_int
                    have HI := hide (⟨hi, hz0, hz1, hz2⟩ : _ ∧ _ ∧ _ ∧ _)
                    have hlen := RD.out.len
                    clear hi hz0 hz1 hz2 HO RD
                    (try clear a1 a2 a3 a4 a5 a6 a7 a8 a9 a10 a11 a12)
                    go_wp2_with fail
                    go_loopw [10] (fun v wr => ∃ (m : Bool) (done : List Int) (R : List ByteArray) (A : Option Addr) (c : Nat) (f : Bool), v = .bool m ∧ Hid (RLsk w0 WD wr p R f rB done A c) ∧ Hid (Lst dt O fB f LD R done) ∧ (m = true → done = [] ∨ (f = true ∧ R ≠ [])) ∧ (m = false → done ≠ [] ∧ (f = true → rdO dt R = none))) (fun v wr => lenAt wr p + (match v with | .bool true => 1 | _ => 0))
                    case atStart => exact ⟨true, [], LD, none, 0, fB, rfl, RL0, LS0, fun _ => .inl rfl, fun h => by cases h⟩
                    case round =>
                      clear RL0 LS0
                      obtain ⟨m, done, R, A, c, f, rfl, RL, LS, hm1, hm0⟩ := hrel
                      have hdl : done.length ≤ 4294967296 := by rcases LS.out.le with h | ⟨h, _⟩ <;> omega
                      cases m
                      · obtain ⟨hd, hRn⟩ := hm0 rfl
                        have FIN := hide (RL.out.fin (by omega))
                        have GF := hide (LS.out.fin (Q := fun R l => P8 R { rB with sk := l }) GD.out hd hRn)
                        clear RL LS hm1 hm0
                        go_wp2
                        go_meet
                        exact ⟨_, R, f, _, rfl, FIN, GF⟩
                      · have hm1 := hm1 rfl
                        clear hm0
                        have HLN := hide RL.out.rd.lenAt
                        have HBIG := hide (show (done.length + 1) * i0.bytes ≤ 140737488355328 ∧ done.length + 1 ≤ 140737488355328 by have := HI.out.2.2.2; rw [this]; omega)
                        go_upto_block 5 with fail
                        go_cut [] from 152 to 158 (fun wx => ∃ (w1 : World) (k : Int) (A3 : Option Addr) (c3 : Nat), w1 = wx ∧ Hid (RLsk w0 WD w1 p R.tail (f && (rdO dt R).isSome) rB (done ++ [k]) A3 c3) ∧ Hid (∀ n, rdO dt R = some n → k = n))
                        case first =>
                          obtain ⟨a1, a2, a3, a4, a5, a6, a7, a8⟩ := RL.out.at_
                          clear LS hm1 GD HLN
                          go_wp2_with fail
                          go_region_law (first | ((refine step_append_b rfl (.tmp 153) (.tmp 156) rfl rfl Tryz.underlying30 HI.out.1 HI.out.2.1 HI.out.2.2.1 (by decide) rfl (by have := HI.out.2.2.2; omega) WD.heap.size done.length (.slice A done.length c) (done.map (Value.int .i64)) [.int .i64 k] _ rfl (by repeat (first | with_reducible exact RL2.out.own | with_reducible refine ownK_alloc ?_ _ | with_reducible refine ownK_plus ?_ _ _ | with_reducible refine ownK_drew ?_ | with_reducible refine ownK_drewN ?_ _)) rfl (by intro u hu; simp only [List.mem_cons, List.not_mem_nil, or_false] at hu; rcases hu with rfl; rfl) rfl (newN_cells (cs := [.int .i64 k]) (by simp only [World.size_alloc, plus_size, World.drew])) HBIG.out (by simp only [World.size_alloc, plus_size, World.drew]; omega) ?_); (intro v' w1 hown1 hgr1 hfr1); (obtain ⟨A3, c3, rfl, _⟩ := ownK_form hown1); (have hb1 : Below WD.heap.size W2 w1 := (Below.mono (by repeat (first | exact Below.refl _ _ | with_reducible refine bl_plus ?_ | with_reducible refine bl_alloc ?_ _ | with_reducible refine bl_drew ?_ | with_reducible refine bl_drewN ?_ _)) b8).grown hgr1 (by simp only [World.size_alloc, plus_size, World.drew]; omega) (fun k hk => (RL2.out.own.lt k hk).1)); (have RA := hide (RL2.out.app hb1 hown1)); (obtain ⟨_, _, _, _, kb, _⟩ := RL2.out.blk); (have kc := kb.below hb1 RL2.out.low); (have m5 := kc.cell 8); (simp only [List.getElem?_toArray, List.getElem?_cons_succ, List.getElem?_cons_zero] at m5); (have mf := kc.frozen); (have ml := kc.lt); (clear hown1 hgr1 hfr1 hb1 kb kc)) | (go_simp; go_at_call 32; refine (HDA.out _ _ _ (RL.out.rd.below_ (by repeat (first | exact Below.refl _ _ | with_reducible refine bl_plus ?_ | with_reducible refine bl_alloc ?_ _ | with_reducible refine bl_drew ?_ | with_reducible refine bl_drewN ?_ _))) ((RL.out.trn0).trans (Trn.of_below (by repeat (first | exact Below.refl _ _ | with_reducible refine bl_plus ?_ | with_reducible refine bl_alloc ?_ _ | with_reducible refine bl_drew ?_ | with_reducible refine bl_drewN ?_ _))))).mono ?_; rintro e W2 ⟨k, rfl, hrd, htr, hk⟩; have RL2 := hide ((RL.out.call (RL.out.rd.below_ (by repeat (first | exact Below.refl _ _ | with_reducible refine bl_plus ?_ | with_reducible refine bl_alloc ?_ _ | with_reducible refine bl_drew ?_ | with_reducible refine bl_drewN ?_ _))) (Trn.of_below (by repeat (first | exact Below.refl _ _ | with_reducible refine bl_plus ?_ | with_reducible refine bl_alloc ?_ _ | with_reducible refine bl_drew ?_ | with_reducible refine bl_drewN ?_ _)))).call hrd htr); obtain ⟨b1, b2, b3, b4, b5, b6, b7, b8⟩ := RL2.out.at_; have HK := hide hk; clear hrd htr hk))
                          all_goals
                            go_wp2_with fail
                            go_meet
                            exact ⟨_, k, A3, c3, rfl, RA, HK⟩
                        case rest =>
                          obtain ⟨w1, k, A3, c3, rfl, RA, HK⟩ := hcut
                          have LS2 := hide (LS.out.step (Q := fun R l => P8 R { rB with sk := l }) GD.out (fun hd hf hr l => by rcases hm1 with h | ⟨_, h2⟩; exact absurd h hd; exact p8_none h2) k HK.out (by rcases hm1 with h | h; exact .inr h; exact .inl h.2))
                          have hnil : (f && (rdO dt R).isSome) = true → R ≠ [] := fun h e => by subst e; cases f <;> cases h
                          generalize (f && (rdO dt R).isSome) = f2 at *
                          have hlt : (R.length = 0 ∧ R.tail.length = 0) ∨ R.tail.length + 1 = R.length := by cases R <;> simp
                          have hln2 := RA.out.rd.lenAt
                          have HL2 := hide hln2
                          have hn0 : f2 = true → ¬ R.length = 0 := fun h e => hnil h (List.length_eq_zero_iff.1 e)
                          have HN0 := hide hn0
                          have HLT := hide hlt
                          clear RL LS hm1 HK hnil hln2 hn0 hlt
                          obtain ⟨a1, a2, a3, a4, a5, a6, a7, a8⟩ := RA.out.at_
                          obtain ⟨⟨b, o, q, k1, k2, k3, k4, k5, k6⟩, k7, k8, k9⟩ := RA.out.rd
                          have hbb : b < w1.heap.size := by omega
                          have c0 : w1.cell? ⟨p, 0, none⟩ = some (.slice (some ⟨b, o, none⟩) R.tail.length q) := k1.cell 0
                          have hne : done ++ [k] ≠ [] := by simp
                          generalize R.tail = R2 at *
                          cases f2
                          · go_wp2
                            go_roundw
                            case rel => exact ⟨false, done ++ [k], R2, A3, c3, false, rfl, RA, LS2, fun h => (by cases h), fun _ => ⟨hne, fun h => (by cases h)⟩⟩
                            case measure =>
                              rw [HLN.out, HL2.out]
                              have h3 := HLT.out
                              simp
                              omega
                          · cases R2 with
                            | nil =>
                              have c0' : w1.cell? ⟨p, 0, none⟩ = some (.slice (some ⟨b, o, none⟩) 0 q) := c0
                              clear c0 k1 k2 k3 k4 k5 k6 k7 k8 k9
                              go_wp2
                              go_roundw
                              case rel => exact ⟨false, done ++ [k], [], A3, c3, true, rfl, RA, LS2, fun h => (by cases h), fun _ => ⟨hne, fun _ => rfl⟩⟩
                              case measure =>
                                rw [HLN.out, HL2.out]
                                simp
                            | cons y t =>
                              have c0' : w1.cell? ⟨p, 0, none⟩ = some (.slice (some ⟨b, o, none⟩) (t.length + 1) q) := c0
                              have d0 : w1.cell? ⟨b, o, none⟩ = some (.string y) := k6 0 (by simp)
                              clear c0 k1 k2 k3 k4 k5 k6 k7 k8 k9
                              go_wp2
                              go_roundw
                              case rel => exact ⟨true, done ++ [k], y :: t, A3, c3, true, rfl, RA, LS2, fun _ => .inr ⟨rfl, by simp⟩, fun h => (by cases h)⟩
                              case measure =>
                                rw [HLN.out, HL2.out]
                                have h3 := HLT.out
                                have h4 := HN0.out rfl
                                simp at h3 ⊢ <;> omega
                case rest =>
                  clear RD HO
                  obtain ⟨WB, LB, fB, rB, rfl, RB, GB⟩ := hcut
                  obtain ⟨a1, a2, a3, a4, a5, a6, a7, a8, a9, a10, a11, a12⟩ := RB.out.at_
                  go_upto_region 33 with fail
                  go_cut [171] from 159 to 171 (fun s wx => s = .bool (!fB || !LB.isEmpty) ∧ WB = wx)
                  case first =>
                    obtain ⟨⟨b, o, c, k1, k2, k3, k4, k5, k6⟩, k7, k8, k9⟩ := RB.out.rd
                    have c0 : WB.cell? ⟨p, 0, none⟩ = some (.slice (some ⟨b, o, none⟩) LB.length c) := k1.cell 0
                    cases LB with
                    | nil =>
                      have c0' : WB.cell? ⟨p, 0, none⟩ = some (.slice (some ⟨b, o, none⟩) 0 c) := c0
                      clear c0 k1 k2 k3 k4 k5 k6 k7 k8 k9
                      cases fB
                      all_goals
                        go_wp2
                        go_meet
                        exact ⟨rfl, rfl⟩
                    | cons y t =>
                      have c0' : WB.cell? ⟨p, 0, none⟩ = some (.slice (some ⟨b, o, none⟩) (t.length + 1) c) := c0
                      clear c0 k1 k2 k3 k4 k5 k6 k7 k8 k9
                      cases fB
                      all_goals
                        go_wp2
                        go_meet
                        exact ⟨rfl, rfl⟩
                  case rest =>
                    obtain ⟨rfl, rfl⟩ := hcut
                    have HB := hide (hHW.out WB RB.out.trn)
                    have GZ := hide (goes_end GB.out)
                    (try clear a1 a2 a3 a4 a5 a6 a7 a8 a9 a10 a11 a12)
                    generalize (!fB || !LB.isEmpty) = bt at *
                    have hgw : w.heap.size < WB.heap.size := HB.out.2.lt
                    obtain ⟨d0, d1, d2, d3, d4, d5, d6, d7, d8, dz, -⟩ := HB.out.2.nine
                    cases bt
                    · have hO := GZ.out.2 (by trivial)
                      subst hO
                      obtain ⟨A1, A2, A3, c1, c2, c3, k1, i1, i2, i3, -⟩ := RB.out.blk
                      have RA : Hid (RulAt WB rB (.agg #[.int .i64 rB.u, .int .i64 rB.e, .int .i64 rB.f, .int .i64 rB.t, .int .i64 rB.c, .slice A1 rB.wd.length c1, .slice A2 rB.da.length c2, .int .i64 rB.n, .slice A3 rB.sk.length c3])) := hide ⟨⟨A1, A2, A3, c1, c2, c3, rfl, i1.ints, i2.ints, i3.ints, (by have := i1.1; unfold maxLen; omega), (by have := i2.1; unfold maxLen; omega), (by have := i3.1; unfold maxLen; omega)⟩⟩
                      have HRF := hide (fun W (hb : Below WB.heap.size WB W) => ruleFault_any rB _ W (RA.out.below hb))
                      obtain ⟨e0, e1, e2, e3, e4, e5, e6, e7, e8, ez, hgx⟩ := k1.nine
                      have K1 := hide k1
                      have I1 := hide i1
                      have I2 := hide i2
                      have I3 := hide i3
                      clear k1 i1 i2 i3 GB GZ
                      go_upto_region 36 with (go_at_call 34; refine (HRF.out _ ?hb).mono ?_; (case hb => exact (by repeat (first | exact Below.refl _ _ | with_reducible refine bl_plus ?_ | with_reducible refine bl_alloc ?_ _ | with_reducible refine bl_drew ?_ | with_reducible refine bl_drewN ?_ _))); rintro e W4 ⟨rfl, hbl⟩; have HBL := hide hbl; clear hbl)
                      have hz := HB.out.2.below HBL.out hgw
                      have hx := K1.out.below HBL.out hgx
                      have hbw := HB.out.1.trans (HBL.out.mono (Nat.le_of_lt hgw))
                      have i1 := I1.out.keep HBL.out.size (fun b _ h => HBL.out.block b h)
                      have i2 := I2.out.keep HBL.out.size (fun b _ h => HBL.out.block b h)
                      have i3 := I3.out.keep HBL.out.size (fun b _ h => HBL.out.block b h)
                      clear d0 d1 d2 d3 d4 d5 d6 d7 d8 dz e0 e1 e2 e3 e4 e5 e6 e7 e8 ez hgx hgw HB K1 I1 I2 I3 HRF RA HBL RB HUX HSX HMX HNU HDA hHW
                      have HZ := hide hz
                      have HBW := hide hbw
                      have I1 := hide i1
                      have I2 := hide i2
                      have I3 := hide i3
                      obtain ⟨d0, d1, d2, d3, d4, d5, d6, d7, d8, dz, hgw⟩ := hz.nine
                      obtain ⟨e0, e1, e2, e3, e4, e5, e6, e7, e8, ez, hgx⟩ := hx.nine
                      clear hz hx hbw i1 i2 i3
                      rcases (by omega : rB.err = 0 ∨ rB.err ≠ 0) with he | he
                      · have HP2 : Hid (∀ (w' : World) (v : Value), RulAt w' rB v → Below w.heap.size w w' → PO (.returned (.tuple #[v, .int .i64 0])) w') := by have h9 := HPO; simp only [if_pos he] at h9; exact h9
                        rw [he]
                        clear HPO he
                        go_wp2
                        have hlo9 : w.heap.size < w0.heap.size + 1 := by omega
                        refine bodyPost_ret (res_cell2 (P := Tryz.prog) (fn := Tryz.f13) (p := 2) (u := 3) rfl _ _ w.heap.size 32 #[.int .i64 rB.u, .int .i64 rB.e, .int .i64 rB.f, .int .i64 rB.t, .int .i64 rB.c, .slice A1 rB.wd.length c1, .slice A2 rB.da.length c2, .int .i64 rB.n, .slice A3 rB.sk.length c3] (0, 0) _ rfl (nine_set HZ.out) Tryz.underlying32 rfl (by kernel_rfl)) rfl ?_
                        exact HP2.out _ _ (RulI.at_ (lo := w0.heap.size + 1) ⟨A1, A2, A3, c1, c2, c3, rfl, (by repeat (first | with_reducible exact I1.out | with_reducible refine IR.setl ?_ hlo9)), (by repeat (first | with_reducible exact I2.out | with_reducible refine IR.setl ?_ hlo9)), (by repeat (first | with_reducible exact I3.out | with_reducible refine IR.setl ?_ hlo9))⟩) (by repeat (first | with_reducible exact HBW.out | with_reducible refine bl_setg ?_))
                      · have HP2 : Hid (∀ (w' : World) (v : Value), RulAt w' rulZ v → Below w.heap.size w w' → PO (.returned (.tuple #[v, .int .i64 rB.err])) w') := by have h9 := HPO; simp only [if_neg he] at h9; exact h9
                        have he2 : (rB.err != 0) = true := bne_iff_ne.2 he
                        generalize rB.err = E at *
                        clear HPO he
                        go_wp2
                        refine bodyPost_ret (res_cell2 (P := Tryz.prog) (fn := Tryz.f13) (p := 2) (u := 3) rfl _ _ w.heap.size 32 #[.int .i64 0, .int .i64 0, .int .i64 0, .int .i64 0, .int .i64 0, .slice none 0 0, .slice none 0 0, .int .i64 0, .slice none 0 0] (0, 0) _ rfl (nine_set HZ.out) Tryz.underlying32 rfl (by kernel_rfl)) rfl ?_
                        exact HP2.out _ _ ⟨⟨none, none, none, 0, 0, 0, rfl, IntsAt.nil, IntsAt.nil, IntsAt.nil, by decide, by decide, by decide⟩⟩ (by repeat (first | with_reducible exact HBW.out | with_reducible refine bl_setg ?_))
                    · have hO := GZ.out.1 (by trivial)
                      subst hO
                      have HP2 : Hid (∀ (w' : World) (v : Value), RulAt w' rulZ v → Below w.heap.size w w' → PO (.returned (.tuple #[v, .int .i64 8])) w') := HPO
                      clear HPO
                      go_wp2
                      have HZ := hide (nine_set HB.out.2 : Blk (((((((((WB.setCell ⟨w.heap.size, 0, none⟩ (.int .i64 0)).setCell ⟨w.heap.size, 1, none⟩ (.int .i64 0)).setCell ⟨w.heap.size, 2, none⟩ (.int .i64 0)).setCell ⟨w.heap.size, 3, none⟩ (.int .i64 0)).setCell ⟨w.heap.size, 4, none⟩ (.int .i64 0)).setCell ⟨w.heap.size, 5, none⟩ (.slice none 0 0)).setCell ⟨w.heap.size, 6, none⟩ (.slice none 0 0)).setCell ⟨w.heap.size, 7, none⟩ (.int .i64 0)).setCell ⟨w.heap.size, 8, none⟩ (.slice none 0 0)) w.heap.size 32 #[.int .i64 0, .int .i64 0, .int .i64 0, .int .i64 0, .int .i64 0, .slice none 0 0, .slice none 0 0, .int .i64 0, .slice none 0 0])
                      have HBZ : Hid (Below w.heap.size w (((((((((WB.setCell ⟨w.heap.size, 0, none⟩ (.int .i64 0)).setCell ⟨w.heap.size, 1, none⟩ (.int .i64 0)).setCell ⟨w.heap.size, 2, none⟩ (.int .i64 0)).setCell ⟨w.heap.size, 3, none⟩ (.int .i64 0)).setCell ⟨w.heap.size, 4, none⟩ (.int .i64 0)).setCell ⟨w.heap.size, 5, none⟩ (.slice none 0 0)).setCell ⟨w.heap.size, 6, none⟩ (.slice none 0 0)).setCell ⟨w.heap.size, 7, none⟩ (.int .i64 0)).setCell ⟨w.heap.size, 8, none⟩ (.slice none 0 0))) := hide (by repeat (first | with_reducible exact HB.out.1 | with_reducible refine bl_plus ?_ | with_reducible refine bl_setg ?_))
                      generalize (((((((((WB.setCell ⟨w.heap.size, 0, none⟩ (.int .i64 0)).setCell ⟨w.heap.size, 1, none⟩ (.int .i64 0)).setCell ⟨w.heap.size, 2, none⟩ (.int .i64 0)).setCell ⟨w.heap.size, 3, none⟩ (.int .i64 0)).setCell ⟨w.heap.size, 4, none⟩ (.int .i64 0)).setCell ⟨w.heap.size, 5, none⟩ (.slice none 0 0)).setCell ⟨w.heap.size, 6, none⟩ (.slice none 0 0)).setCell ⟨w.heap.size, 7, none⟩ (.int .i64 0)).setCell ⟨w.heap.size, 8, none⟩ (.slice none 0 0)) = WZ at *
                      refine bodyPost_ret (res_cell2 (P := Tryz.prog) (fn := Tryz.f13) (p := 2) (u := 3) rfl _ WZ w.heap.size 32 #[.int .i64 0, .int .i64 0, .int .i64 0, .int .i64 0, .int .i64 0, .slice none 0 0, .slice none 0 0, .int .i64 0, .slice none 0 0] (0, 0) _ rfl HZ.out Tryz.underlying32 rfl (by kernel_rfl)) rfl ?_
                      exact HP2.out _ _ ⟨⟨none, none, none, 0, 0, 0, rfl, IntsAt.nil, IntsAt.nil, IntsAt.nil, by decide, by decide, by decide⟩⟩ HBZ.out

end Go.Proofs.YtjaoiehjhnmahaaGreatDoor
