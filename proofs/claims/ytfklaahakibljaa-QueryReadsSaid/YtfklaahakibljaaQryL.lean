/-
  WALKS: Alike of two queries that read alike.
-/
import Derived.Test.YtfklaahakibljaaQryM
import Derived.Test.YtfklaahakibljaaQryE
import Derived.BigQuiet
namespace Go.Proofs.Ytfklaahakibljaa
open Go.RowKit Go.Shelf

theorem StrsIn.below {w w' : World} {A : Option Addr} {ws : List ByteArray} (h : StrsIn w A ws) (hb : Below w.heap.size w w') : StrsIn w' A ws := h.keep (keepT_below hb)
theorem WsIn.below {w w' : World} {l : List PV} (h : WsIn w l) (hb : Below w.heap.size w w') : WsIn w' l := h.keep (keepT_below hb)
theorem PsIn.below {w w' : World} {A : Option Addr} {ps : List Pt} (h : PsIn w A ps) (hb : Below w.heap.size w w') : PsIn w' A ps := h.keep (keepT_below hb) (keepT_below hb)

set_option maxHeartbeats 800000 in
set_option maxRecDepth 100000 in
theorem equalStrs_same (A B : Option Addr) (c c' : Nat) (xs : List ByteArray) (w : World) (hA : StrsIn w A xs) (hB : StrsIn w B xs) (hm : xs.length ≤ 2000000) :
    Calls Try.prog 37 #[.slice A xs.length c, .slice B xs.length c'] w fun e w' => e = .returned (.bool true) ∧ Below w.heap.size w w' := by
  have HA := hide hA
  have HB := hide hB
  clear hA hB
  go_enter Try.func37, Try.ntmps37
  go_wp2
  go_loopw [13] (fun i wr => ∃ (k n : Nat), k ≤ xs.length ∧ i = .int .i64 k ∧ wr = w.drewN n) (fun i _ => xs.length - (intOf i).toNat)
  case atStart => exact ⟨0, 0, Nat.zero_le _, rfl, rfl⟩
  case round =>
    obtain ⟨k, n, hk, rfl, rfl⟩ := hrel
    by_cases hlt : k < xs.length
    · obtain ⟨b, cur, rfl, hb, hcell⟩ := HA.out (by omega)
      obtain ⟨b', cur', rfl, hb', hcell'⟩ := HB.out (by omega)
      have c0 := (Blk.cell (cs := cur) hb k).trans (hcell k hlt)
      have d0 := (Blk.cell (cs := cur') hb' k).trans (hcell' k hlt)
      generalize xs[k] = x at c0 d0
      clear hcell hcell' hb hb'
      have i1 : (k : Int) < (xs.length : Int) := by omega
      go_wp2
      go_quiet (fail)
      go_wp2
      go_roundw
      case rel => exact ⟨k + 1, _, hlt, by go_num, rfl⟩
      case measure => simp [intOf]; omega
    · have hkl : k = xs.length := by omega
      go_wp2
      go_returns
      exact ⟨rfl, bl_drewN (Below.refl _ _) _⟩

set_option maxHeartbeats 800000 in
set_option maxRecDepth 100000 in
theorem alikePart_same (A B : Option Addr) (c c' : Nat) (k : Int) (ws : List ByteArray) (w : World) (hA : StrsIn w A ws) (hB : StrsIn w B ws) (hm : ws.length ≤ 2000000) :
    Calls Try.prog 143 #[.agg #[.int .i64 k, .slice A ws.length c], .agg #[.int .i64 k, .slice B ws.length c']] w fun e w' => e = .returned (.bool true) ∧ Below w.heap.size w w' := by
  have H := hide (fun w hA hB => equalStrs_same A B c c' ws w hA hB hm)
  have HA := hide hA
  have HB := hide hB
  clear hA hB
  go_enter Try.func143, Try.ntmps143
  go_wp2_with (go_at_call 37; refine (H.out _ (HA.out.below (by repeat (first | exact Below.refl _ _ | refine bl_plus ?_ | refine bl_alloc ?_ _ | refine bl_drew ?_))) (HB.out.below (by repeat (first | exact Below.refl _ _ | refine bl_plus ?_ | refine bl_alloc ?_ _ | refine bl_drew ?_)))).mono ?_; rintro e w' ⟨rfl, hbl⟩; obtain ⟨os1, n1, rfl⟩ := below_plus hbl; clear hbl)
  go_ret
  exact ⟨rfl, by repeat (first | exact Below.refl _ _ | refine bl_plus ?_ | refine bl_alloc ?_ _ | refine bl_drew ?_)⟩

/-- The cells of a slice of two-cell things. -/
theorem psIn_cells {W : World} {A : Option Addr} {l : List PV} {k : Nat} (h : 0 < l.length → ∃ b cur, A = some ⟨b, 0, none⟩ ∧ W.heap[b]? = some (.cells cur 102 (0, 0)) ∧ ∀ i, i < l.length * 2 → cur[i]? = (flatP l)[i]?) (hk : k < l.length) :
    ∃ b off, A = some ⟨b, off, none⟩ ∧ b < W.heap.size ∧ W.cell? ⟨b, off + k * 2, none⟩ = some (.int .i64 l[k].p.k) ∧ W.cell? ⟨b, off + k * 2 + 1, none⟩ = some (.slice l[k].A l[k].p.ws.length l[k].c) := by
  obtain ⟨b, cur, hA, hb, hc⟩ := h (by omega)
  refine ⟨b, 0, hA, Blk.lt (cs := cur) hb, ?_, ?_⟩
  · rw [Blk.cell (cs := cur) hb, Nat.zero_add, hc _ (by omega)]
    exact flatP_get l k 0 hk (by omega)
  · rw [Blk.cell (cs := cur) hb, Nat.zero_add, hc _ (by omega)]
    exact flatP_get l k 1 hk (by omega)
theorem csIn_cells {W : World} {A : Option Addr} {l : List CV} {k : Nat} (h : 0 < l.length → ∃ b cur, A = some ⟨b, 0, none⟩ ∧ W.heap[b]? = some (.cells cur 97 (0, 0)) ∧ ∀ i, i < l.length * 2 → cur[i]? = (flatC l)[i]?) (hk : k < l.length) :
    ∃ b off, A = some ⟨b, off, none⟩ ∧ b < W.heap.size ∧ W.cell? ⟨b, off + k * 2, none⟩ = some (.bool l[k].c.neg) ∧ W.cell? ⟨b, off + k * 2 + 1, none⟩ = some (.slice l[k].A l[k].c.ps.length l[k].cap) := by
  obtain ⟨b, cur, hA, hb, hc⟩ := h (by omega)
  refine ⟨b, 0, hA, Blk.lt (cs := cur) hb, ?_, ?_⟩
  · rw [Blk.cell (cs := cur) hb, Nat.zero_add, hc _ (by omega)]
    exact flatC_get l k 0 hk (by omega)
  · rw [Blk.cell (cs := cur) hb, Nat.zero_add, hc _ (by omega)]
    exact flatC_get l k 1 hk (by omega)

set_option maxHeartbeats 1600000 in
set_option maxRecDepth 100000 in
theorem equalParts_same (A B : Option Addr) (c d : Nat) (ps : List Pt) (w : World) (hA : PsIn w A ps) (hB : PsIn w B ps) (hm : ps.length ≤ 1000000) (h7 : ∀ p ∈ ps, p.ws.length ≤ 2000000) :
    Calls Try.prog 142 #[.slice A ps.length c, .slice B ps.length d, .func (.func 143) #[] #[]] w fun e w' => e = .returned (.bool true) ∧ Below w.heap.size w w' := by
  obtain ⟨la, ha1, ha2, ha3⟩ := hA
  obtain ⟨lb, hb1, hb2, hb3⟩ := hB
  have hla : la.length = ps.length := by rw [← ha1, List.length_map]
  have hlb : lb.length = ps.length := by rw [← hb1, List.length_map]
  have HA := hide ha2
  have HB := hide hb2
  have HA3 := hide ha3
  have HB3 := hide hb3
  have H7 := hide h7
  have HL := hide (And.intro hla hlb)
  have HE := hide (And.intro ha1 hb1)
  clear ha1 ha2 ha3 hb1 hb2 hb3 h7 hla hlb
  go_enter Try.func142, Try.ntmps142
  go_wp2
  go_loopw [17] (fun i wr => ∃ (k : Nat) (os : Array Obj) (n : Nat), k ≤ ps.length ∧ i = .int .i64 k ∧ wr = plus w os n) (fun i _ => ps.length - (intOf i).toNat)
  case atStart => exact ⟨0, #[], _, Nat.zero_le _, rfl, plus_nil.symm⟩
  case round =>
    obtain ⟨k, os, n, hk, rfl, rfl⟩ := hrel
    by_cases hlt : k < ps.length
    · have hka : k < la.length := by rw [HL.out.1]; exact hlt
      have hkb : k < lb.length := by rw [HL.out.2]; exact hlt
      obtain ⟨b, off, rfl, hb, x0, x1⟩ := psIn_cells HA3.out hka
      obtain ⟨b2, off2, rfl, hb2, y0, y1⟩ := psIn_cells HB3.out hkb
      have hxa := HA.out _ (List.getElem_mem hka)
      have hxb := HB.out _ (List.getElem_mem hkb)
      have hpa : la[k].p = ps[k] := by simp only [← HE.out.1, List.getElem_map]
      have hpb : lb[k].p = ps[k] := by simp only [← HE.out.2, List.getElem_map]
      have h7 := H7.out _ (List.getElem_mem hlt)
      rw [hpa] at x0 x1 hxa
      rw [hpb] at y0 y1 hxb
      clear hpa hpb
      generalize la[k].A = Xa at *
      generalize lb[k].A = Xb at *
      generalize la[k].c = ca at *
      generalize lb[k].c = cb at *
      generalize ps[k] = p at *
      obtain ⟨pk, pw⟩ := p
      simp only at x0 x1 y0 y1 hxa hxb h7
      have HX := hide hxa
      have HY := hide hxb
      have HM := hide h7
      clear hxa hxb h7 hka hkb
      have i1 : (k : Int) < (ps.length : Int) := by omega
      go_wp2_with (go_at_call 143; refine (alikePart_same _ _ _ _ _ _ _ (HX.out.below (by repeat (first | exact Below.refl _ _ | refine bl_plus ?_ | refine bl_alloc ?_ _ | refine bl_drew ?_))) (HY.out.below (by repeat (first | exact Below.refl _ _ | refine bl_plus ?_ | refine bl_alloc ?_ _ | refine bl_drew ?_))) HM.out).mono ?_; rintro e w' ⟨rfl, hbl⟩; obtain ⟨os1, n1, rfl⟩ := below_plus hbl; clear hbl)
      go_roundw
      case rel => exact ⟨k + 1, _, _, hlt, by go_num, by rw [plus_alloc, plus_alloc, plus_plus]⟩
      case measure => simp [intOf]; omega
    · have hkl : k = ps.length := by omega
      subst hkl
      go_wp2
      go_ret
      exact ⟨rfl, by repeat (first | exact Below.refl _ _ | refine bl_plus ?_ | refine bl_alloc ?_ _ | refine bl_drew ?_)⟩

set_option maxHeartbeats 800000 in
set_option maxRecDepth 100000 in
theorem alikeClause_same (A B : Option Addr) (c c' : Nat) (k : Bool) (ps : List Pt) (w : World) (hA : PsIn w A ps) (hB : PsIn w B ps) (hm : ps.length ≤ 1000000) (h7 : ∀ p ∈ ps, p.ws.length ≤ 2000000) :
    Calls Try.prog 79 #[.agg #[.bool k, .slice A ps.length c], .agg #[.bool k, .slice B ps.length c']] w fun e w' => e = .returned (.bool true) ∧ Below w.heap.size w w' := by
  have H := hide (fun w hA hB => equalParts_same A B c c' ps w hA hB hm h7)
  have HA := hide hA
  have HB := hide hB
  clear hA hB h7
  go_enter Try.func79, Try.ntmps79
  go_wp2_with (go_at_call 142; refine (H.out _ (HA.out.below (by repeat (first | exact Below.refl _ _ | refine bl_plus ?_ | refine bl_alloc ?_ _ | refine bl_drew ?_))) (HB.out.below (by repeat (first | exact Below.refl _ _ | refine bl_plus ?_ | refine bl_alloc ?_ _ | refine bl_drew ?_)))).mono ?_; rintro e w' ⟨rfl, hbl⟩; obtain ⟨os1, n1, rfl⟩ := below_plus hbl; clear hbl)
  go_ret
  exact ⟨rfl, by repeat (first | exact Below.refl _ _ | refine bl_plus ?_ | refine bl_alloc ?_ _ | refine bl_drew ?_)⟩

set_option maxHeartbeats 1600000 in
set_option maxRecDepth 100000 in
theorem equalClauses_same (A B : Option Addr) (c d : Nat) (cs : List Cl) (w : World) (hA : CsIn w A cs) (hB : CsIn w B cs) (hm : cs.length ≤ 1000000) (h7 : ∀ c ∈ cs, c.ps.length ≤ 400 ∧ ∀ p ∈ c.ps, p.ws.length ≤ 401) :
    Calls Try.prog 78 #[.slice A cs.length c, .slice B cs.length d, .func (.func 79) #[] #[]] w fun e w' => e = .returned (.bool true) ∧ Below w.heap.size w w' := by
  obtain ⟨la, ha1, ha2, ha3⟩ := hA
  obtain ⟨lb, hb1, hb2, hb3⟩ := hB
  have hla : la.length = cs.length := by rw [← ha1, List.length_map]
  have hlb : lb.length = cs.length := by rw [← hb1, List.length_map]
  have HA := hide ha2
  have HB := hide hb2
  have HA3 := hide ha3
  have HB3 := hide hb3
  have H7 := hide h7
  have HL := hide (And.intro hla hlb)
  have HE := hide (And.intro ha1 hb1)
  clear ha1 ha2 ha3 hb1 hb2 hb3 h7 hla hlb
  go_enter Try.func78, Try.ntmps78
  go_wp2
  go_loopw [17] (fun i wr => ∃ (k : Nat) (os : Array Obj) (n : Nat), k ≤ cs.length ∧ i = .int .i64 k ∧ wr = plus w os n) (fun i _ => cs.length - (intOf i).toNat)
  case atStart => exact ⟨0, #[], _, Nat.zero_le _, rfl, plus_nil.symm⟩
  case round =>
    obtain ⟨k, os, n, hk, rfl, rfl⟩ := hrel
    by_cases hlt : k < cs.length
    · have hka : k < la.length := by rw [HL.out.1]; exact hlt
      have hkb : k < lb.length := by rw [HL.out.2]; exact hlt
      obtain ⟨b, off, rfl, hb, x0, x1⟩ := csIn_cells HA3.out hka
      obtain ⟨b2, off2, rfl, hb2, y0, y1⟩ := csIn_cells HB3.out hkb
      have hxa := HA.out _ (List.getElem_mem hka)
      have hxb := HB.out _ (List.getElem_mem hkb)
      have hpa : la[k].c = cs[k] := by simp only [← HE.out.1, List.getElem_map]
      have hpb : lb[k].c = cs[k] := by simp only [← HE.out.2, List.getElem_map]
      have h7 := H7.out _ (List.getElem_mem hlt)
      rw [hpa] at x0 x1 hxa
      rw [hpb] at y0 y1 hxb
      clear hpa hpb
      generalize la[k].A = Xa at *
      generalize lb[k].A = Xb at *
      generalize la[k].cap = ca at *
      generalize lb[k].cap = cb at *
      generalize cs[k] = p at *
      obtain ⟨pk, pw⟩ := p
      simp only at x0 x1 y0 y1 hxa hxb h7
      have HX := hide hxa
      have HY := hide hxb
      have HM := hide h7
      clear hxa hxb h7 hka hkb
      have i1 : (k : Int) < (cs.length : Int) := by omega
      go_wp2_with (go_at_call 79; refine (alikeClause_same _ _ _ _ _ _ _ (HX.out.below (by repeat (first | exact Below.refl _ _ | refine bl_plus ?_ | refine bl_alloc ?_ _ | refine bl_drew ?_))) (HY.out.below (by repeat (first | exact Below.refl _ _ | refine bl_plus ?_ | refine bl_alloc ?_ _ | refine bl_drew ?_))) (by have := HM.out.1; omega) (fun p hp => by have := HM.out.2 p hp; omega)).mono ?_; rintro e w' ⟨rfl, hbl⟩; obtain ⟨os1, n1, rfl⟩ := below_plus hbl; clear hbl)
      go_roundw
      case rel => exact ⟨k + 1, _, _, hlt, by go_num, by rw [plus_alloc, plus_alloc, plus_plus]⟩
      case measure => simp [intOf]; omega
    · have hkl : k = cs.length := by omega
      subst hkl
      go_wp2
      go_ret
      exact ⟨rfl, by repeat (first | exact Below.refl _ _ | refine bl_plus ?_ | refine bl_alloc ?_ _ | refine bl_drew ?_)⟩

theorem as_query_0 (v : Value) (w : World) : (Instr.typeAssert (.iface 39 v) 20 24 true).run Try.prog w = .ok (.tuple #[.agg #[.int .i64 0, .int .i64 0, .int .i64 0, .string ⟨#[]⟩, .slice none 0 0], .bool false]) w := by kernel_rfl
theorem as_query_1 (v : Value) (w : World) : (Instr.typeAssert (.iface 39 v) 20 106 true).run Try.prog w = .ok (.tuple #[.slice none 0 0, .bool false]) w := by kernel_rfl
theorem as_query_2 (v : Value) (w : World) : (Instr.typeAssert (.iface 39 v) 20 113 true).run Try.prog w = .ok (.tuple #[.agg #[.int .i64 0, .int .i64 0, .slice none 0 0, .string ⟨#[]⟩, .slice none 0 0], .bool false]) w := by kernel_rfl
theorem as_query_3 (v : Value) (w : World) : (Instr.typeAssert (.iface 39 v) 20 116 true).run Try.prog w = .ok (.tuple #[.slice none 0 0, .bool false]) w := by kernel_rfl
theorem as_query_4 (v : Value) (w : World) : (Instr.typeAssert (.iface 39 v) 20 122 true).run Try.prog w = .ok (.tuple #[.agg #[.slice none 0 0, .slice none 0 0], .bool false]) w := by kernel_rfl
theorem as_query_yes (v : Value) (w : World) : (Instr.typeAssert (.iface 39 v) 20 39 true).run Try.prog w = .ok (.tuple #[v, .bool true]) w := by kernel_rfl
attribute [local go_sem] as_query_0 as_query_1 as_query_2 as_query_3 as_query_4 as_query_yes

set_option maxHeartbeats 3200000 in
set_option maxRecDepth 100000 in
theorem alikeQuery_same (A B : Option Addr) (c d : Nat) (cs : List Cl) (w : World) (hA : CsIn w A cs) (hB : CsIn w B cs) (hm : cs.length ≤ 1000000) (h7 : ∀ c ∈ cs, c.ps.length ≤ 400 ∧ ∀ p ∈ c.ps, p.ws.length ≤ 401) :
    Calls Try.prog 26 #[.iface 39 (.agg #[.slice A cs.length c]), .iface 39 (.agg #[.slice B cs.length d])] w fun e w' => e = .returned (.bool true) ∧ Below w.heap.size w w' := by
  have H := hide (fun w hA hB => equalClauses_same A B c d cs w hA hB hm h7)
  have HA := hide hA
  have HB := hide hB
  clear hA hB h7
  go_enter Try.func26, Try.ntmps26
  go_wp2_with (go_at_call 78; refine (H.out _ (HA.out.below (by repeat (first | exact Below.refl _ _ | refine bl_plus ?_ | refine bl_alloc ?_ _ | refine bl_drew ?_))) (HB.out.below (by repeat (first | exact Below.refl _ _ | refine bl_plus ?_ | refine bl_alloc ?_ _ | refine bl_drew ?_)))).mono ?_; rintro e w' ⟨rfl, hbl⟩; obtain ⟨os1, n1, rfl⟩ := below_plus hbl; clear hbl)
  go_ret
  exact ⟨rfl, by repeat (first | exact Below.refl _ _ | refine bl_plus ?_ | refine bl_alloc ?_ _ | refine bl_drew ?_)⟩

end Go.Proofs.Ytfklaahakibljaa
