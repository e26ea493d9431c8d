/-
  WALKS: what can begin at a position of a string, in the program: an escape, code; targets.
-/
import Derived.Test.YtioppoaijehicaaGreatDoorSpc
import Derived.Test.YtioppoaijehicaaGreatDoorSpb
import Derived.Test.YtioppoaijehicaaGreatDoorIxc
import Derived.Test.YtioppoaijehicaaGreatDoorLyd
import Derived.Test.YtioppoaijehicaaGreatDoorDlSp
import Derived.Deep.CutBlock
set_option linter.all false
namespace Go.Proofs.YtioppoaijehicaaGreatDoor
open Go.RowKit

theorem Blk.seven {w : World} {g : Nat} {t : TypeId} {a0 a1 a2 a3 a4 a5 a6 : Value} (h : Blk w g t #[a0, a1, a2, a3, a4, a5, a6]) :
    w.cell? ⟨g, 0, none⟩ = some a0 ∧ w.cell? ⟨g, 1, none⟩ = some a1 ∧ w.cell? ⟨g, 2, none⟩ = some a2 ∧ w.cell? ⟨g, 3, none⟩ = some a3 ∧ w.cell? ⟨g, 4, none⟩ = some a4 ∧ w.cell? ⟨g, 5, none⟩ = some a5 ∧ w.cell? ⟨g, 6, none⟩ = some a6 ∧ (∀ i, w.frozen? ⟨g, i, none⟩ = false) ∧ g < w.heap.size :=
  ⟨h.cell 0, h.cell 1, h.cell 2, h.cell 3, h.cell 4, h.cell 5, h.cell 6, h.frozen, h.lt⟩

theorem seven_set {W : World} {g : Nat} {T : TypeId} {q0 q1 q2 q3 q4 q5 q6 v0 v1 v2 v3 v4 v5 v6 : Value} (h : Blk W g T #[q0, q1, q2, q3, q4, q5, q6]) : Blk (((((((W.setCell ⟨g, 0, none⟩ v0).setCell ⟨g, 1, none⟩ v1).setCell ⟨g, 2, none⟩ v2).setCell ⟨g, 3, none⟩ v3).setCell ⟨g, 4, none⟩ v4).setCell ⟨g, 5, none⟩ v5).setCell ⟨g, 6, none⟩ v6) g T #[v0, v1, v2, v3, v4, v5, v6] := by
  have h1 : Blk (W.setCell ⟨g, 0, none⟩ v0) g T #[v0, q1, q2, q3, q4, q5, q6] := h.set_ 0 v0
  have h2 : Blk ((W.setCell ⟨g, 0, none⟩ v0).setCell ⟨g, 1, none⟩ v1) g T #[v0, v1, q2, q3, q4, q5, q6] := h1.set_ 1 v1
  have h3 : Blk (((W.setCell ⟨g, 0, none⟩ v0).setCell ⟨g, 1, none⟩ v1).setCell ⟨g, 2, none⟩ v2) g T #[v0, v1, v2, q3, q4, q5, q6] := h2.set_ 2 v2
  have h4 : Blk ((((W.setCell ⟨g, 0, none⟩ v0).setCell ⟨g, 1, none⟩ v1).setCell ⟨g, 2, none⟩ v2).setCell ⟨g, 3, none⟩ v3) g T #[v0, v1, v2, v3, q4, q5, q6] := h3.set_ 3 v3
  have h5 : Blk (((((W.setCell ⟨g, 0, none⟩ v0).setCell ⟨g, 1, none⟩ v1).setCell ⟨g, 2, none⟩ v2).setCell ⟨g, 3, none⟩ v3).setCell ⟨g, 4, none⟩ v4) g T #[v0, v1, v2, v3, v4, q5, q6] := h4.set_ 4 v4
  have h6 : Blk ((((((W.setCell ⟨g, 0, none⟩ v0).setCell ⟨g, 1, none⟩ v1).setCell ⟨g, 2, none⟩ v2).setCell ⟨g, 3, none⟩ v3).setCell ⟨g, 4, none⟩ v4).setCell ⟨g, 5, none⟩ v5) g T #[v0, v1, v2, v3, v4, v5, q6] := h5.set_ 5 v5
  exact h6.set_ 6 v6

theorem below_seven {w0 W : World} {g : Nat} {v0 v1 v2 v3 v4 v5 v6 : Value} {n : Nat} (h : Below n w0 W) (hg : n ≤ g) : Below n w0 (((((((W.setCell ⟨g, 0, none⟩ v0).setCell ⟨g, 1, none⟩ v1).setCell ⟨g, 2, none⟩ v2).setCell ⟨g, 3, none⟩ v3).setCell ⟨g, 4, none⟩ v4).setCell ⟨g, 5, none⟩ v5).setCell ⟨g, 6, none⟩ v6) :=
  ((((((h.setCell (p := ⟨g, 0, none⟩) hg v0).setCell (p := ⟨g, 1, none⟩) hg v1).setCell (p := ⟨g, 2, none⟩) hg v2).setCell (p := ⟨g, 3, none⟩) hg v3).setCell (p := ⟨g, 4, none⟩) hg v4).setCell (p := ⟨g, 5, none⟩) hg v5).setCell (p := ⟨g, 6, none⟩) hg v6

theorem below_chainS {w0 w w' : World} (h1 : Below w0.heap.size w0 w) (h2 : Below w.heap.size w w') : Below w0.heap.size w0 w' := h1.trans (h2.mono h1.size)

theorem results_sp {P : Program} {fn : Func} {p u : Tmp} {ty : TypeId} (h : fn.results = #[.cell p ty, .tmp u]) (tmps : Array Value) (w : World) (g : Nat) (t : TypeId) (cs : Array Value) (fr : Nat × Nat) (d : TypeDesc)
    (hp : tmps.getD p undef = .pointer (some ⟨g, 0, none⟩)) (hg : w.heap[g]? = some (.cells cs t fr))
    (hu : P.underlying ty = some d) (hd : (match d with | .struct _ | .array _ _ => true | _ => false) = true) (hi : (P.info? ty).map (·.size) = some cs.size) :
    (results fn tmps).run P w = .ok (.tuple #[.agg cs, tmps.getD u undef]) w := by
  have hp' : tmps[p]?.getD undef = .pointer (some ⟨g, 0, none⟩) := by simpa using hp
  simp [results, h, hp', asAddr, Sem.run_bind, Result.andThen, run_loadVar_row w g t ty cs fr d hg hu hd hi]

def zSp : Sp := ⟨0, 0, 0, ⟨#[]⟩, ⟨#[]⟩, 0, false⟩

/-- What such a function hands back. -/
def SpOut (o : Option Sp) (w : World) (e : Ending) (w' : World) : Prop := e = .returned (.tuple #[.agg (o.getD zSp).vals.toArray, .bool o.isSome]) ∧ Below w.heap.size w w'

theorem spOut_none {w w' : World} (h : Below w.heap.size w w') : SpOut none w (.returned (.tuple #[.agg #[.int .i64 0, .int .i64 0, .int .i64 0, .string ⟨#[]⟩, .string ⟨#[]⟩, .int .i64 0, .bool false], .bool false])) w' := ⟨rfl, h⟩

theorem spOut_some {x : Sp} {w w' : World} (h : Below w.heap.size w w') : SpOut (some x) w (.returned (.tuple #[.agg x.vals.toArray, .bool true])) w' := ⟨rfl, h⟩

theorem u8_beq (c : UInt8) (k : Nat) : ((c.toNat : Int) == (k : Int)) = (c.toNat == k) := by
  rw [Bool.eq_iff_iff, beq_iff_eq, beq_iff_eq]; omega

theorem u8_ne_t {c : UInt8} {k : Nat} (h : c.toNat ≠ k) : ((c.toNat : Int) != (k : Int)) = true := bne_iff_ne.2 (by omega)

theorem u8_ne_f {c : UInt8} {k : Nat} (h : c.toNat = k) : ((c.toNat : Int) != (k : Int)) = false := by rw [h]; simp

theorem one_true {s : ByteArray} {i c : Nat} (h : one s i c = true) : ∃ h1 : i < s.size, s[i].toNat = c := by
  unfold one at h
  split at h
  · rename_i h1; exact ⟨h1, beq_iff_eq.1 h⟩
  · cases h

theorem one_false {s : ByteArray} {i c : Nat} (h : one s i c = false) (h1 : i < s.size) : s[i].toNat ≠ c := by
  unfold one at h
  rw [dif_pos h1] at h
  exact beq_eq_false_iff_ne.1 h

/-! ### Library calls at the rest of a string -/
theorem ext_rest (s : ByteArray) (k : Nat) : (s.extract k s.size).data.toList = s.data.toList.drop k := by
  rw [Lib.extract_data]
  exact List.take_of_length_le (by rw [List.length_drop, ← Lib.size_eq]; exact Nat.le_refl _)

theorem has2_at (s : ByteArray) (k c : Nat) (hc : c < 256) (w : World) : Calls Tryz.prog 133 #[.string (s.extract k s.size), .string ⟨#[UInt8.ofNat c, UInt8.ofNat c]⟩] w fun e w' => e = .returned (.bool (two s k c)) ∧ w' = w := by
  have h := Tryz.hasPrefix_any (s.extract k s.size) ⟨#[UInt8.ofNat c, UInt8.ofNat c]⟩ w
  rw [ext_rest] at h
  rw [← two_has s k c hc]
  exact h

theorem has1_at (s : ByteArray) (k c : Nat) (hc : c < 256) (w : World) : Calls Tryz.prog 133 #[.string (s.extract k s.size), .string ⟨#[UInt8.ofNat c]⟩] w fun e w' => e = .returned (.bool (one s k c)) ∧ w' = w := by
  have h := Tryz.hasPrefix_any (s.extract k s.size) ⟨#[UInt8.ofNat c]⟩ w
  rw [ext_rest] at h
  rw [← one_has s k c hc]
  exact h

theorem ib_span (c : UInt8) (p : UInt8 → Bool) (hp : ∀ b, p b = !(b == c)) : ∀ l : List UInt8, Lib.indexByte l c = if (l.takeWhile p).length < l.length then ((l.takeWhile p).length : Int) else -1
  | [] => rfl
  | a :: l => by
    have ih := ib_span c p hp l
    unfold Lib.indexByte
    rw [List.takeWhile_cons, hp a]
    cases hn : (a == c) with
    | true => simp
    | false =>
      simp only [Bool.not_false, Bool.false_eq_true, if_false, if_true, List.length_cons]
      rw [ih]
      by_cases h : (l.takeWhile p).length < l.length
      · have hx : ((((l.takeWhile p).length : Nat) : Int) == -1) = false := by
          rw [beq_eq_false_iff_ne]
          omega
        rw [if_pos h, hx]
        simp only [Bool.false_eq_true, if_false]
        rw [if_pos (by omega)]
        omega
      · rw [if_neg h]
        simp only [show ((-1 : Int) == -1) = true from rfl, if_true]
        rw [if_neg (by omega)]

theorem ia_span (cs : List UInt8) (p : UInt8 → Bool) (hp : ∀ b, p b = !(cs.contains b)) : ∀ l : List UInt8, Lib.indexAny l cs = if (l.takeWhile p).length < l.length then ((l.takeWhile p).length : Int) else -1
  | [] => rfl
  | a :: l => by
    have ih := ia_span cs p hp l
    unfold Lib.indexAny
    rw [List.takeWhile_cons, hp a]
    cases hn : cs.contains a with
    | true => simp
    | false =>
      simp only [Bool.not_false, Bool.false_eq_true, if_false, if_true, List.length_cons]
      rw [ih]
      by_cases h : (l.takeWhile p).length < l.length
      · have hx : ((((l.takeWhile p).length : Nat) : Int) == -1) = false := by
          rw [beq_eq_false_iff_ne]
          omega
        rw [if_pos h, hx]
        simp only [Bool.false_eq_true, if_false]
        rw [if_pos (by omega)]
        omega
      · rw [if_neg h]
        simp only [show ((-1 : Int) == -1) = true from rfl, if_true]
        rw [if_neg (by omega)]

theorem span_end {s : ByteArray} {k : Nat} (p : UInt8 → Bool) (h : k ≤ s.size) {r : Int} (hr : r = if ((s.data.toList.drop k).takeWhile p).length < (s.data.toList.drop k).length then (((s.data.toList.drop k).takeWhile p).length : Int) else -1) : r = if scn p s k < s.size then ((scn p s k : Nat) : Int) - (k : Int) else -1 := by
  rw [hr]
  unfold scn
  rw [List.length_drop, ← Lib.size_eq]
  by_cases h1 : ((s.data.toList.drop k).takeWhile p).length < s.size - k
  · rw [if_pos h1, if_pos (by omega)]
    omega
  · rw [if_neg h1, if_neg (by omega)]

theorem noTk_is (b : UInt8) : noTk b = !(b == 96) := by
  unfold noTk
  have : (b == (96 : UInt8)) = (b.toNat == 96) := u8_be (c := 96) (by decide)
  rw [this]; rfl

theorem noBr_is (b : UInt8) : noBr b = !(([91, 93] : List UInt8).contains b) := by
  unfold noBr
  have h1 : (b == (91 : UInt8)) = (b.toNat == 91) := u8_be (c := 91) (by decide)
  have h2 : (b == (93 : UInt8)) = (b.toNat == 93) := u8_be (c := 93) (by decide)
  simp only [List.contains_cons, List.contains_nil, Bool.or_false, h1, h2, Bool.not_or]
  rfl

theorem idxTk_at (s : ByteArray) (k : Nat) (h : k ≤ s.size) (w : World) : Calls Tryz.prog 159 #[.string (s.extract k s.size), .int .u8 96] w fun e w' => e = .returned (.int .i64 (if scn noTk s k < s.size then ((scn noTk s k : Nat) : Int) - (k : Int) else -1)) ∧ w' = w := by
  have h1 := Any.strings_IndexByte { Tryz.idxL with } (s.extract k s.size) 96 w
  rw [ext_rest] at h1
  rw [← span_end noTk h (ib_span 96 noTk noTk_is (s.data.toList.drop k))]
  exact h1

theorem idxBr_at (s : ByteArray) (k : Nat) (h : k ≤ s.size) (hs : s.size ≤ 1000000) (w : World) : Calls Tryz.prog 160 #[.string (s.extract k s.size), .string ⟨#[91, 93]⟩] w fun e w' => e = .returned (.int .i64 (if scn noBr s k < s.size then ((scn noBr s k : Nat) : Int) - (k : Int) else -1)) ∧ Below w.heap.size w w' := by
  have h1 := indexAny_any (s.extract k s.size) ⟨#[91, 93]⟩ w (by decide) (by decide) (by rw [ByteArray.size_extract]; omega) (by
    intro j b hb
    match j, hb with
    | 0, hb => obtain rfl := Option.some.inj hb; decide
    | 1, hb => obtain rfl := Option.some.inj hb; decide)
  rw [ext_rest, show (⟨#[91, 93]⟩ : ByteArray).data.toList = [91, 93] from rfl] at h1
  rw [← span_end noBr h (ia_span [91, 93] noBr noBr_is (s.data.toList.drop k))]
  exact h1

set_option maxHeartbeats 1600000 in
set_option maxRecDepth 100000 in
theorem escapeAt_any (s : ByteArray) (i : Nat) (w : World) (hi : i < s.size) (hs : s.size ≤ 1000000) :
    Calls Tryz.prog 223 #[.string s, .int .i64 i] w (SpOut (escP s i) w) := by
  have HPN : Hid (escP s i = none → ∀ w', Below w.heap.size w w' → SpOut (escP s i) w (.returned (.tuple #[.agg #[.int .i64 0, .int .i64 0, .int .i64 0, .string ⟨#[]⟩, .string ⟨#[]⟩, .int .i64 0, .bool false], .bool false])) w') := hide fun h w' hb => by rw [h]; exact spOut_none hb
  have HPS : Hid (∀ x, escP s i = some x → ∀ (cs : Array Value) w', cs = x.vals.toArray → Below w.heap.size w w' → SpOut (escP s i) w (.returned (.tuple #[.agg cs, .bool true])) w') := hide fun x h cs w' hc hb => by rw [h, hc]; exact spOut_some hb
  generalize SpOut (escP s i) w = PO at *
  have HPU := hide (fun (h : i + 1 < s.size) W => isPunctT_any s[i + 1] W)
  have i0 : (i : Int) < (s.size : Int) := by omega
  by_cases h92 : s[i].toNat = 92
  · have b1 := u8_ne_f (k := 92) h92
    by_cases hl : i + 1 < s.size
    · have i1 : (i : Int) + 1 < (s.size : Int) := by omega
      have i2 : (i : Int) + 2 ≤ (s.size : Int) := by omega
      have b2 : ((i : Int) + 1 == (s.size : Int)) = false := beq_eq_false_iff_ne.2 (by omega)
      have HPU := hide (HPU.out hl)
      cases hp : isPu s[i + 1] with
      | true =>
        have HF := hide (HPS.out ⟨2, i, i + 2, s.extract (i + 1) (i + 2), ⟨#[]⟩, 0, false⟩ (by
          unfold escP
          rw [dif_pos hl, if_pos ⟨h92, hp⟩]
          rfl))
        rw [hp] at HPU
        clear hp HPS HPN
        go_enter Tryz.func223, Tryz.ntmps223
        go_upto_region 1 with (fail)
        have HN := hide (Blk.new w 90 #[.int .i64 0, .int .i64 0, .int .i64 0, .string ⟨#[]⟩, .string ⟨#[]⟩, .int .i64 0, .bool false])
        have HBA := hide (bl_alloc (Below.refl w.heap.size w) (.cells #[.int .i64 0, .int .i64 0, .int .i64 0, .string ⟨#[]⟩, .string ⟨#[]⟩, .int .i64 0, .bool false] 90))
        generalize w.alloc (.cells #[.int .i64 0, .int .i64 0, .int .i64 0, .string ⟨#[]⟩, .string ⟨#[]⟩, .int .i64 0, .bool false] 90) = wa at *
        obtain ⟨z0, z1, z2, z3, z4, z5, z6, zf, zl⟩ := HN.out.seven
        go_wp2_with (go_at_call 243; refine (HPU.out _).mono ?_; rintro e w' ⟨rfl, rfl⟩)
        refine bodyPost_ret (results_sp (P := Tryz.prog) (by rfl) _ _ w.heap.size 90 _ (0, 0) _ rfl (seven_set HN.out) Tryz.underlying90 rfl (by kernel_rfl)) rfl ?_
        exact HF.out _ _ (by simp only [Sp.vals, Int.natCast_add, Int.cast_ofNat_Int] <;> rfl) (below_seven HBA.out (Nat.le_refl _))
      | false =>
        have HF := hide (HPN.out (by
          unfold escP
          rw [dif_pos hl, if_neg (fun h => by rw [hp] at h; exact absurd h.2 Bool.false_ne_true)]))
        rw [hp] at HPU
        clear hp HPS HPN
        go_enter Tryz.func223, Tryz.ntmps223
        go_upto_region 1 with (fail)
        have HN := hide (Blk.new w 90 #[.int .i64 0, .int .i64 0, .int .i64 0, .string ⟨#[]⟩, .string ⟨#[]⟩, .int .i64 0, .bool false])
        have HBA := hide (bl_alloc (Below.refl w.heap.size w) (.cells #[.int .i64 0, .int .i64 0, .int .i64 0, .string ⟨#[]⟩, .string ⟨#[]⟩, .int .i64 0, .bool false] 90))
        generalize w.alloc (.cells #[.int .i64 0, .int .i64 0, .int .i64 0, .string ⟨#[]⟩, .string ⟨#[]⟩, .int .i64 0, .bool false] 90) = wa at *
        obtain ⟨z0, z1, z2, z3, z4, z5, z6, zf, zl⟩ := HN.out.seven
        go_wp2_with (go_at_call 243; refine (HPU.out _).mono ?_; rintro e w' ⟨rfl, rfl⟩)
        refine bodyPost_ret (results_sp (P := Tryz.prog) (by rfl) _ _ w.heap.size 90 _ (0, 0) _ rfl (seven_set HN.out) Tryz.underlying90 rfl (by kernel_rfl)) rfl ?_
        exact HF.out _ (below_seven HBA.out (Nat.le_refl _))
    · have b2 : ((i : Int) + 1 == (s.size : Int)) = true := beq_iff_eq.2 (by omega)
      have HF := hide (HPN.out (by unfold escP; rw [dif_neg hl]))
      clear HPS HPN HPU
      go_enter Tryz.func223, Tryz.ntmps223
      go_upto_region 1 with (fail)
      have HN := hide (Blk.new w 90 #[.int .i64 0, .int .i64 0, .int .i64 0, .string ⟨#[]⟩, .string ⟨#[]⟩, .int .i64 0, .bool false])
      have HBA := hide (bl_alloc (Below.refl w.heap.size w) (.cells #[.int .i64 0, .int .i64 0, .int .i64 0, .string ⟨#[]⟩, .string ⟨#[]⟩, .int .i64 0, .bool false] 90))
      generalize w.alloc (.cells #[.int .i64 0, .int .i64 0, .int .i64 0, .string ⟨#[]⟩, .string ⟨#[]⟩, .int .i64 0, .bool false] 90) = wa at *
      obtain ⟨z0, z1, z2, z3, z4, z5, z6, zf, zl⟩ := HN.out.seven
      go_wp2_with (fail)
      refine bodyPost_ret (results_sp (P := Tryz.prog) (by rfl) _ _ w.heap.size 90 _ (0, 0) _ rfl (seven_set HN.out) Tryz.underlying90 rfl (by kernel_rfl)) rfl ?_
      exact HF.out _ (below_seven HBA.out (Nat.le_refl _))
  · have b1 := u8_ne_t (k := 92) h92
    have HF := hide (HPN.out (by
      unfold escP
      split
      · rw [if_neg (fun h => h92 h.1)]
      · rfl))
    clear HPS HPN HPU
    go_enter Tryz.func223, Tryz.ntmps223
    go_upto_region 1 with (fail)
    have HN := hide (Blk.new w 90 #[.int .i64 0, .int .i64 0, .int .i64 0, .string ⟨#[]⟩, .string ⟨#[]⟩, .int .i64 0, .bool false])
    have HBA := hide (bl_alloc (Below.refl w.heap.size w) (.cells #[.int .i64 0, .int .i64 0, .int .i64 0, .string ⟨#[]⟩, .string ⟨#[]⟩, .int .i64 0, .bool false] 90))
    generalize w.alloc (.cells #[.int .i64 0, .int .i64 0, .int .i64 0, .string ⟨#[]⟩, .string ⟨#[]⟩, .int .i64 0, .bool false] 90) = wa at *
    obtain ⟨z0, z1, z2, z3, z4, z5, z6, zf, zl⟩ := HN.out.seven
    go_wp2_with (fail)
    refine bodyPost_ret (results_sp (P := Tryz.prog) (by rfl) _ _ w.heap.size 90 _ (0, 0) _ rfl (seven_set HN.out) Tryz.underlying90 rfl (by kernel_rfl)) rfl ?_
    exact HF.out _ (below_seven HBA.out (Nat.le_refl _))

set_option maxHeartbeats 1600000 in
set_option maxRecDepth 100000 in
theorem codeAt_any (s : ByteArray) (i : Nat) (w : World) (hi : i < s.size) (hs : s.size ≤ 1000000) :
    Calls Tryz.prog 224 #[.string s, .int .i64 i] w (SpOut (codeP s i) w) := by
  have HPN : Hid (codeP s i = none → ∀ w', Below w.heap.size w w' → SpOut (codeP s i) w (.returned (.tuple #[.agg #[.int .i64 0, .int .i64 0, .int .i64 0, .string ⟨#[]⟩, .string ⟨#[]⟩, .int .i64 0, .bool false], .bool false])) w') := hide fun h w' hb => by rw [h]; exact spOut_none hb
  have HPS : Hid (∀ x, codeP s i = some x → ∀ (cs : Array Value) w', cs = x.vals.toArray → Below w.heap.size w w' → SpOut (codeP s i) w (.returned (.tuple #[.agg cs, .bool true])) w') := hide fun x h cs w' hc hb => by rw [h, hc]; exact spOut_some hb
  generalize SpOut (codeP s i) w = PO at *
  have HIX := hide (fun W => idxTk_at s (i + 1) (by omega) W)
  have i0 : (i : Int) < (s.size : Int) := by omega
  have i1 : (i : Int) + 1 ≤ (s.size : Int) := by omega
  cases h96 : one s i 96 with
  | false =>
    have b1 := u8_ne_t (k := 96) (one_false h96 hi)
    have HF := hide (HPN.out (by unfold codeP; rw [h96, if_neg (fun h => absurd h.1 Bool.false_ne_true)]))
    clear HPS HPN HIX
    go_enter Tryz.func224, Tryz.ntmps224
    go_upto_region 1 with (fail)
    have HN := hide (Blk.new w 90 #[.int .i64 0, .int .i64 0, .int .i64 0, .string ⟨#[]⟩, .string ⟨#[]⟩, .int .i64 0, .bool false])
    have HBA := hide (bl_alloc (Below.refl w.heap.size w) (.cells #[.int .i64 0, .int .i64 0, .int .i64 0, .string ⟨#[]⟩, .string ⟨#[]⟩, .int .i64 0, .bool false] 90))
    generalize w.alloc (.cells #[.int .i64 0, .int .i64 0, .int .i64 0, .string ⟨#[]⟩, .string ⟨#[]⟩, .int .i64 0, .bool false] 90) = wa at *
    obtain ⟨z0, z1, z2, z3, z4, z5, z6, zf, zl⟩ := HN.out.seven
    go_wp2_with (fail)
    refine bodyPost_ret (results_sp (P := Tryz.prog) (by rfl) _ _ w.heap.size 90 _ (0, 0) _ rfl (seven_set HN.out) Tryz.underlying90 rfl (by kernel_rfl)) rfl ?_
    exact HF.out _ (below_seven HBA.out (Nat.le_refl _))
  | true =>
    obtain ⟨h9b, h9⟩ := one_true h96
    have b1 := u8_ne_f (k := 96) h9
    have hge := scn_ge noTk s (i + 1)
    have hle := scn_le (p := noTk) (s := s) (k := i + 1) (by omega)
    have HC := hide (show codeP s i = if i + 1 < scn noTk s (i + 1) ∧ scn noTk s (i + 1) < s.size then some ⟨3, i, scn noTk s (i + 1) + 1, s.extract (i + 1) (scn noTk s (i + 1)), ByteArray.empty, 0, false⟩ else none from by
      unfold codeP
      rw [h96]
      by_cases h : i + 1 < scn noTk s (i + 1) ∧ scn noTk s (i + 1) < s.size
      · rw [if_pos ⟨rfl, h⟩, if_pos h]
      · rw [if_neg (fun h9 => h h9.2), if_neg h])
    generalize scn noTk s (i + 1) = E at *
    obtain ⟨n, rfl⟩ : ∃ n, E = i + 1 + n := ⟨E - (i + 1), by omega⟩
    clear h96 h9
    by_cases hE : i + 1 + n < s.size
    · rw [if_pos hE, show (((i + 1 + n : Nat) : Int) - ((i + 1 : Nat) : Int)) = (n : Int) by omega] at HIX
      by_cases hn : n = 0
      · subst hn
        have HF := hide (HPN.out (by rw [HC.out, if_neg (fun h => by omega)]))
        clear HPS HPN HC
        go_enter Tryz.func224, Tryz.ntmps224
        go_upto_region 1 with (fail)
        have HN := hide (Blk.new w 90 #[.int .i64 0, .int .i64 0, .int .i64 0, .string ⟨#[]⟩, .string ⟨#[]⟩, .int .i64 0, .bool false])
        have HBA := hide (bl_alloc (Below.refl w.heap.size w) (.cells #[.int .i64 0, .int .i64 0, .int .i64 0, .string ⟨#[]⟩, .string ⟨#[]⟩, .int .i64 0, .bool false] 90))
        generalize w.alloc (.cells #[.int .i64 0, .int .i64 0, .int .i64 0, .string ⟨#[]⟩, .string ⟨#[]⟩, .int .i64 0, .bool false] 90) = wa at *
        obtain ⟨z0, z1, z2, z3, z4, z5, z6, zf, zl⟩ := HN.out.seven
        go_wp2_with (go_at_call 159; refine (HIX.out _).mono ?_; rintro e w' ⟨rfl, hw⟩; subst w')
        refine bodyPost_ret (results_sp (P := Tryz.prog) (by rfl) _ _ w.heap.size 90 _ (0, 0) _ rfl (seven_set HN.out) Tryz.underlying90 rfl (by kernel_rfl)) rfl ?_
        exact HF.out _ (below_seven HBA.out (Nat.le_refl _))
      · have i3 : ¬ (n : Int) < 1 := by omega
        have i4 : (i : Int) + 1 + n ≤ (s.size : Int) := by omega
        have i5 : (i : Int) + n + 2 ≤ (s.size : Int) := by omega
        have HF := hide (HPS.out ⟨3, i, i + n + 2, s.extract (i + 1) (i + 1 + n), ⟨#[]⟩, 0, false⟩ (by
          rw [HC.out, if_pos ⟨by omega, hE⟩]
          exact congrArg some (by rw [show i + 1 + n + 1 = i + n + 2 by omega]; rfl)))
        clear HPS HPN HC
        go_enter Tryz.func224, Tryz.ntmps224
        go_upto_region 1 with (fail)
        have HN := hide (Blk.new w 90 #[.int .i64 0, .int .i64 0, .int .i64 0, .string ⟨#[]⟩, .string ⟨#[]⟩, .int .i64 0, .bool false])
        have HBA := hide (bl_alloc (Below.refl w.heap.size w) (.cells #[.int .i64 0, .int .i64 0, .int .i64 0, .string ⟨#[]⟩, .string ⟨#[]⟩, .int .i64 0, .bool false] 90))
        generalize w.alloc (.cells #[.int .i64 0, .int .i64 0, .int .i64 0, .string ⟨#[]⟩, .string ⟨#[]⟩, .int .i64 0, .bool false] 90) = wa at *
        obtain ⟨z0, z1, z2, z3, z4, z5, z6, zf, zl⟩ := HN.out.seven
        go_wp2_with (go_at_call 159; refine (HIX.out _).mono ?_; rintro e w' ⟨rfl, hw⟩; subst w')
        refine bodyPost_ret (results_sp (P := Tryz.prog) (by rfl) _ _ w.heap.size 90 _ (0, 0) _ rfl (seven_set HN.out) Tryz.underlying90 rfl (by kernel_rfl)) rfl ?_
        exact HF.out _ _ (by simp only [Sp.vals, Int.natCast_add, Int.cast_ofNat_Int] <;> rfl) (below_seven HBA.out (Nat.le_refl _))
    · rw [if_neg hE] at HIX
      have HF := hide (HPN.out (by rw [HC.out, if_neg (fun h => hE h.2)]))
      clear HPS HPN HC
      go_enter Tryz.func224, Tryz.ntmps224
      go_upto_region 1 with (fail)
      have HN := hide (Blk.new w 90 #[.int .i64 0, .int .i64 0, .int .i64 0, .string ⟨#[]⟩, .string ⟨#[]⟩, .int .i64 0, .bool false])
      have HBA := hide (bl_alloc (Below.refl w.heap.size w) (.cells #[.int .i64 0, .int .i64 0, .int .i64 0, .string ⟨#[]⟩, .string ⟨#[]⟩, .int .i64 0, .bool false] 90))
      generalize w.alloc (.cells #[.int .i64 0, .int .i64 0, .int .i64 0, .string ⟨#[]⟩, .string ⟨#[]⟩, .int .i64 0, .bool false] 90) = wa at *
      obtain ⟨z0, z1, z2, z3, z4, z5, z6, zf, zl⟩ := HN.out.seven
      go_wp2_with (go_at_call 159; refine (HIX.out _).mono ?_; rintro e w' ⟨rfl, hw⟩; subst w')
      refine bodyPost_ret (results_sp (P := Tryz.prog) (by rfl) _ _ w.heap.size 90 _ (0, 0) _ rfl (seven_set HN.out) Tryz.underlying90 rfl (by kernel_rfl)) rfl ?_
      exact HF.out _ (below_seven HBA.out (Nat.le_refl _))

theorem isTgt_no {t : ByteArray} {j : Nat} (hj : j < t.size) (h : inTr t[j] = false) : isTgt t = false := by
  cases h9 : isTgt t with
  | false => rfl
  | true =>
    have := isTgt_all h9
    rw [List.all_eq_true] at this
    have h2 := this t[j] (by
      rw [List.mem_iff_getElem]
      exact ⟨j, by rw [← Lib.size_eq]; exact hj, rfl⟩)
    rw [h] at h2
    cases h2

theorem isTgt_yes {t : ByteArray} (h1 : 1 ≤ t.size) (h2 : t.size ≤ 100) (h3 : one t 0 32 = false) (h4 : one t (t.size - 1) 32 = false) (h5 : ∀ j (h : j < t.size), inTr t[j] = true) : isTgt t = true := by
  unfold isTgt
  rw [h3, h4, decide_eq_true ⟨h1, h2⟩]
  simp only [Bool.not_false, Bool.and_true, Bool.true_and]
  rw [List.all_eq_true]
  intro x hx
  obtain ⟨j, hj, rfl⟩ := List.getElem_of_mem hx
  exact h5 j (by rw [Lib.size_eq]; exact hj)

set_option maxHeartbeats 1600000 in
set_option maxRecDepth 100000 in
theorem isTarget_any (t : ByteArray) (w : World) (hs : t.size ≤ 1000000) :
    Calls Tryz.prog 245 #[.string t] w fun e w' => e = .returned (.bool (isTgt t)) ∧ w' = w := by
  have HPO : Hid (∀ b, b = isTgt t → (fun e w' => e = Ending.returned (.bool (isTgt t)) ∧ w' = w) (.returned (.bool b)) w) := hide fun b h => ⟨by rw [h], rfl⟩
  generalize (fun e w' => e = Ending.returned (.bool (isTgt t)) ∧ w' = w) = PO at *
  have HNO := hide (fun j (hj : j < t.size) h => isTgt_no hj h)
  have HYES := hide (fun h1 h2 h3 h4 h5 => isTgt_yes (t := t) h1 h2 h3 h4 h5)
  have HIT := hide (fun j (h : j < t.size) W => inTarget_any t[j] W)
  by_cases h0 : t.size = 0
  · obtain rfl : t = ⟨#[]⟩ := by
      cases t with | mk d => have : d = #[] := Array.eq_empty_of_size_eq_zero h0; rw [this]
    have HF := hide (HPO.out false rfl)
    clear HPO HNO HYES HIT h0 hs
    go_enter Tryz.func245, Tryz.ntmps245
    go_wp2
    exact HF.out
  · obtain ⟨e1, e2⟩ : t.toList.isEmpty = false ∧ (t.toList == []) = false := by
      rw [Lib.toList_data]
      have : t.data.toList ≠ [] := fun h => h0 (by rw [Lib.size_eq, h]; rfl)
      exact ⟨by simpa using this, beq_eq_false_iff_ne.2 this⟩
    by_cases h100 : 100 < t.size
    · have i1 : (100 : Int) < (t.size : Int) := by omega
      have HF := hide (HPO.out false (by unfold isTgt; rw [decide_eq_false (fun h => by omega)]; rfl))
      clear HPO HNO HYES HIT h0 h100
      go_enter Tryz.func245, Tryz.ntmps245
      go_wp2
      exact HF.out
    · have i1 : ¬ (100 : Int) < (t.size : Int) := by omega
      have i0 : (0 : Int) < (t.size : Int) := by omega
      have hp : 0 < t.size := by omega
      have i2 : (t.size : Int) - 1 < (t.size : Int) := by omega
      have i3 : 0 ≤ (t.size : Int) - 1 := by omega
      have hq : t.size - 1 < t.size := by omega
      cases o1 : one t 0 32 with
      | true =>
        obtain ⟨h9b, h9⟩ := one_true o1
        have b1 : ((t[0].toNat : Int) == 32) = true := beq_iff_eq.2 (by omega)
        have HF := hide (HPO.out false (by unfold isTgt; rw [o1]; simp))
        clear HPO HNO HYES HIT h0 h100 o1 h9
        go_enter Tryz.func245, Tryz.ntmps245
        go_wp2
        exact HF.out
      | false =>
        have h9 := one_false o1 hp
        have b1 : ((t[0].toNat : Int) == 32) = false := beq_eq_false_iff_ne.2 (by omega)
        cases o2 : one t (t.size - 1) 32 with
        | true =>
          obtain ⟨h8b, h8⟩ := one_true o2
          have b2 : ((t[t.size - 1].toNat : Int) == 32) = true := beq_iff_eq.2 (by omega)
          have HF := hide (HPO.out false (by unfold isTgt; rw [o2]; simp))
          clear HPO HNO HYES HIT h0 h100 o1 o2 h9 h8
          go_enter Tryz.func245, Tryz.ntmps245
          go_wp2
          exact HF.out
        | false =>
          have h8 := one_false o2 hq
          have b2 : ((t[t.size - 1].toNat : Int) == 32) = false := beq_eq_false_iff_ne.2 (by omega)
          have HF := hide (fun h5 => HPO.out true (HYES.out (by omega) (by omega) o1 o2 h5).symm)
          have HN := hide (fun j hj h => HPO.out false (HNO.out j hj h).symm)
          clear HPO HNO HYES o1 o2 h8 h9 h100
          go_enter Tryz.func245, Tryz.ntmps245
          go_wp2
          go_loopw [26] (fun s26 wr => ∃ k : Nat, k ≤ t.size ∧ s26 = .int .i64 k ∧ Hid (∀ j (h : j < t.size), j < k → inTr t[j] = true) ∧ wr = w) (fun s26 _ => t.size - (intOf s26).toNat)
          case atStart => exact ⟨0, Nat.zero_le _, rfl, hide (fun j h hj => absurd hj (by omega)), rfl⟩
          case round =>
            obtain ⟨k, hk, rfl, HA, rfl⟩ := hrel
            by_cases hlt : k < t.size
            · have j1 : (k : Int) < (t.size : Int) := by omega
              have HIT := hide (HIT.out k hlt)
              cases hb : inTr t[k] with
              | true =>
                rw [hb] at HIT
                have HA2 := hide (fun j (h : j < t.size) (hj : j < k + 1) => (if e : j = k then (by subst e; exact hb) else HA.out j h (by omega) : inTr t[j] = true))
                clear hb HA HN HF
                go_wp2_with (go_at_call 244; refine (HIT.out _).mono ?_; rintro e w' ⟨rfl, rfl⟩)
                go_roundw
                case rel => exact ⟨k + 1, hlt, by go_num, HA2, by first | rfl | trivial⟩
                case measure => simp [intOf]; omega
              | false =>
                rw [hb] at HIT
                have HR := hide (HN.out k hlt hb)
                clear hb HA HN HF
                go_wp2_with (go_at_call 244; refine (HIT.out _).mono ?_; rintro e w' ⟨rfl, rfl⟩)
                exact HR.out
            · obtain rfl : k = t.size := by omega
              have HR := hide (HF.out (fun j h => HA.out j h h))
              clear HA HN HF HIT
              go_wp2
              exact HR.out

end Go.Proofs.YtioppoaijehicaaGreatDoor
/-
  WALKS: what can begin at a position of a string, in the program: a link, a reference.
-/
namespace Go.Proofs.YtioppoaijehicaaGreatDoor
open Go.RowKit

set_option maxHeartbeats 6400000 in
set_option maxRecDepth 100000 in
theorem linkAt_any (s : ByteArray) (i : Nat) (w : World) (hi : i < s.size) (hs : s.size ≤ 1000000) :
    Calls Tryz.prog 225 #[.string s, .int .i64 i] w (SpOut (linkP s i) w) := by
  have HPN : Hid (linkP s i = none → ∀ w', Below w.heap.size w w' → SpOut (linkP s i) w (.returned (.tuple #[.agg #[.int .i64 0, .int .i64 0, .int .i64 0, .string ⟨#[]⟩, .string ⟨#[]⟩, .int .i64 0, .bool false], .bool false])) w') := hide fun h w' hb => by rw [h]; exact spOut_none hb
  have HPS : Hid (∀ x, linkP s i = some x → ∀ (cs : Array Value) w', cs = x.vals.toArray → Below w.heap.size w w' → SpOut (linkP s i) w (.returned (.tuple #[.agg cs, .bool true])) w') := hide fun x h cs w' hc hb => by rw [h, hc]; exact spOut_some hb
  generalize SpOut (linkP s i) w = PO at *
  have H91 := hide (show ∀ W, Calls Tryz.prog 133 #[.string (s.extract (i) s.size), .string ⟨#[91, 91]⟩] W (fun e w' => e = .returned (.bool (two s (i) 91)) ∧ w' = W) from fun W => has2_at s (i) 91 (by decide) W)
  have i0 : (i : Int) < (s.size : Int) := by omega
  cases h91 : two s i 91 with
  | false =>
    rw [h91] at H91
    have HF := hide (HPN.out (by unfold linkP; rw [h91, if_neg (fun h => absurd h.1 Bool.false_ne_true)]))
    clear HPS HPN
    go_enter Tryz.func225, Tryz.ntmps225
    go_upto_region 1 with (fail)
    have HN := hide (Blk.new w 90 #[.int .i64 0, .int .i64 0, .int .i64 0, .string ⟨#[]⟩, .string ⟨#[]⟩, .int .i64 0, .bool false])
    have HBA := hide (bl_alloc (Below.refl w.heap.size w) (.cells #[.int .i64 0, .int .i64 0, .int .i64 0, .string ⟨#[]⟩, .string ⟨#[]⟩, .int .i64 0, .bool false] 90))
    generalize w.alloc (.cells #[.int .i64 0, .int .i64 0, .int .i64 0, .string ⟨#[]⟩, .string ⟨#[]⟩, .int .i64 0, .bool false] 90) = wa at *
    obtain ⟨z0, z1, z2, z3, z4, z5, z6, zf, zl⟩ := HN.out.seven
    go_wp2_with (go_at_call_of 133 (Value.string ⟨#[91, 91]⟩); (refine (H91.out _).mono ?_); rintro e w' ⟨rfl, hw⟩; subst w')
    refine bodyPost_ret (results_sp (P := Tryz.prog) (by rfl) _ _ w.heap.size 90 _ (0, 0) _ rfl (seven_set HN.out) Tryz.underlying90 rfl (by kernel_rfl)) rfl ?_
    exact HF.out _ (below_seven HBA.out (Nat.le_refl _))
  | true =>
    have hsz := two_lt h91
    rw [h91] at H91
    have i1 : (i : Int) + 2 ≤ (s.size : Int) := by omega
    have hge := scn_ge inTr s (i + 2)
    have hle := scn_le (p := inTr) (s := s) (k := i + 2) (by omega)
    obtain ⟨E, hE⟩ : ∃ E, scn inTr s (i + 2) = E := ⟨_, rfl⟩
    have HE := hide hE
    have HLP : Hid (linkP s i = if isTgt (s.extract (i + 2) E) = true then (if two s E 93 = true then some ⟨4, i, E + 2, s.extract (i + 2) E, ByteArray.empty, 0, false⟩ else if one s E 124 = true ∧ E + 1 < scn noBr s (E + 1) ∧ two s (scn noBr s (E + 1)) 93 = true then some ⟨4, i, scn noBr s (E + 1) + 2, s.extract (i + 2) E, s.extract (E + 1) (scn noBr s (E + 1)), 0, false⟩ else none) else none) := hide (by
      unfold linkP
      rw [h91, hE]
      by_cases h : isTgt (s.extract (i + 2) E) = true
      · rw [if_pos ⟨rfl, h⟩, if_pos h]
      · rw [if_neg (fun h9 => h h9.2), if_neg h])
    rw [hE] at hge hle
    clear hE h91
    have HTG := hide (fun W => isTarget_any (s.extract (i + 2) E) W (by rw [ByteArray.size_extract]; omega))
    have H93 := hide (show ∀ W, Calls Tryz.prog 133 #[.string (s.extract (E) s.size), .string ⟨#[93, 93]⟩] W (fun e w' => e = .returned (.bool (two s (E) 93)) ∧ w' = W) from fun W => has2_at s (E) 93 (by decide) W)
    have H124 := hide (show ∀ W, Calls Tryz.prog 133 #[.string (s.extract (E) s.size), .string ⟨#[124]⟩] W (fun e w' => e = .returned (.bool (one s (E) 124)) ∧ w' = W) from fun W => has1_at s (E) 124 (by decide) W)
    have HIT := hide (fun k (h : k < s.size) W => inTarget_any s[k] W)
    have i2 : (i : Int) + 2 ≤ (E : Int) := by omega
    have i3 : (E : Int) ≤ (s.size : Int) := by omega
    go_enter Tryz.func225, Tryz.ntmps225
    go_upto_region 1 with (fail)
    have HN := hide (Blk.new w 90 #[.int .i64 0, .int .i64 0, .int .i64 0, .string ⟨#[]⟩, .string ⟨#[]⟩, .int .i64 0, .bool false])
    have HBA := hide (bl_alloc (Below.refl w.heap.size w) (.cells #[.int .i64 0, .int .i64 0, .int .i64 0, .string ⟨#[]⟩, .string ⟨#[]⟩, .int .i64 0, .bool false] 90))
    generalize w.alloc (.cells #[.int .i64 0, .int .i64 0, .int .i64 0, .string ⟨#[]⟩, .string ⟨#[]⟩, .int .i64 0, .bool false] 90) = wa at *
    obtain ⟨z0, z1, z2, z3, z4, z5, z6, zf, zl⟩ := HN.out.seven
    go_upto_block 0 with (go_at_call_of 133 (Value.string ⟨#[91, 91]⟩); (refine (H91.out _).mono ?_); rintro e w' ⟨rfl, hw⟩; subst w')
    go_cut [6] from 17 to 28 (fun s6 wx => s6 = .int .i64 E ∧ wx = wa)
    case first =>
      go_wp2_with fail
      go_loopw [6] (fun s6 wr => ∃ k : Nat, i + 2 ≤ k ∧ k ≤ s.size ∧ s6 = .int .i64 k ∧ Hid (scn inTr s k = E) ∧ wr = wa) (fun s6 _ => s.size - (intOf s6).toNat)
      case atStart => exact ⟨i + 2, Nat.le_refl _, by omega, by go_num, HE, rfl⟩
      case round =>
        obtain ⟨k, hk1, hk2, rfl, HR, rfl⟩ := hrel
        by_cases hlt : k < s.size
        · have j1 : (k : Int) < (s.size : Int) := by omega
          have HIT1 := hide (HIT.out k hlt)
          cases hb : inTr s[k] with
          | true =>
            rw [hb] at HIT1
            have HR2 := hide ((scn_step hlt hb).trans HR.out)
            clear hb HR
            go_wp2_with (go_at_call 244; refine (HIT1.out _).mono ?_; rintro e w' ⟨rfl, rfl⟩)
            go_roundw
            case rel => exact ⟨k + 1, by omega, hlt, by go_num, HR2, by first | rfl | trivial⟩
            case measure => simp [intOf]; omega
          | false =>
            rw [hb] at HIT1
            have hke : k = E := by have := HR.out; rw [scn_stop hlt hb] at this; exact this
            have HKE := hide hke
            clear hb HR hke
            go_wp2_with (go_at_call 244; refine (HIT1.out _).mono ?_; rintro e w' ⟨rfl, rfl⟩)
            go_meet
            exact ⟨by rw [HKE.out], by first | rfl | trivial⟩
        · obtain rfl : k = s.size := by omega
          have hke : s.size = E := by have := HR.out; rw [scn_over (Nat.le_refl _)] at this; exact this
          have HKE := hide hke
          clear HR hke
          go_wp2
          go_meet
          exact ⟨by rw [HKE.out], by first | rfl | trivial⟩
    case rest =>
    obtain ⟨rfl, rfl⟩ := hcut
    clear HIT H91 HE
    cases ht : isTgt (s.extract (i + 2) E) with
    | false =>
      rw [ht] at HTG
      have HF := hide (HPN.out (by rw [HLP.out, ht, if_neg Bool.false_ne_true]))
      clear HPS HPN HLP ht
      go_wp2_with (go_at_call 245; refine (HTG.out _).mono ?_; rintro e w' ⟨rfl, hw⟩; subst w')
      refine bodyPost_ret (results_sp (P := Tryz.prog) (by rfl) _ _ w.heap.size 90 _ (0, 0) _ rfl (seven_set HN.out) Tryz.underlying90 rfl (by kernel_rfl)) rfl ?_
      exact HF.out _ (below_seven HBA.out (Nat.le_refl _))
    | true =>
      rw [ht] at HTG
      cases h93 : two s E 93 with
      | true =>
        rw [h93] at H93
        have i4 : (E : Int) + 2 ≤ (s.size : Int) := by have := two_lt h93; omega
        have HF := hide (HPS.out ⟨4, i, E + 2, s.extract (i + 2) E, ⟨#[]⟩, 0, false⟩ (by rw [HLP.out, ht, h93, if_pos rfl, if_pos rfl]; rfl))
        clear HPS HPN HLP ht h93 H124
        go_wp2_with (first | (go_at_call 245; refine (HTG.out _).mono ?_; rintro e w' ⟨rfl, hw⟩; subst w') | (go_at_call_of 133 (Value.string ⟨#[93, 93]⟩); (with_reducible refine (H93.out _).mono ?_); rintro e w' ⟨rfl, hw⟩; subst w'))
        refine bodyPost_ret (results_sp (P := Tryz.prog) (by rfl) _ _ w.heap.size 90 _ (0, 0) _ rfl (seven_set HN.out) Tryz.underlying90 rfl (by kernel_rfl)) rfl ?_
        exact HF.out _ _ (by simp only [Sp.vals, Int.natCast_add, Int.cast_ofNat_Int] <;> rfl) (below_seven HBA.out (Nat.le_refl _))
      | false =>
        rw [h93] at H93
        cases h124 : one s E 124 with
        | false =>
          rw [h124] at H124
          have HF := hide (HPN.out (by rw [HLP.out, ht, h93, h124, if_pos rfl, if_neg Bool.false_ne_true, if_neg (fun h => absurd h.1 Bool.false_ne_true)]))
          clear HPS HPN HLP ht h93 h124
          go_wp2_with (first | (go_at_call 245; refine (HTG.out _).mono ?_; rintro e w' ⟨rfl, hw⟩; subst w') | (go_at_call_of 133 (Value.string ⟨#[93, 93]⟩); (with_reducible refine (H93.out _).mono ?_); rintro e w' ⟨rfl, hw⟩; subst w') | (go_at_call_of 133 (Value.string ⟨#[124]⟩); (with_reducible refine (H124.out _).mono ?_); rintro e w' ⟨rfl, hw⟩; subst w'))
          refine bodyPost_ret (results_sp (P := Tryz.prog) (by rfl) _ _ w.heap.size 90 _ (0, 0) _ rfl (seven_set HN.out) Tryz.underlying90 rfl (by kernel_rfl)) rfl ?_
          exact HF.out _ (below_seven HBA.out (Nat.le_refl _))
        | true =>
          rw [h124] at H124
          obtain ⟨hEl, hE9⟩ := one_true h124
          have i4 : (E : Int) + 1 ≤ (s.size : Int) := by omega
          have HIX := hide (fun W => idxBr_at s (E + 1) (by omega) hs W)
          have hge2 := scn_ge noBr s (E + 1)
          have hle2 := scn_le (p := noBr) (s := s) (k := E + 1) (by omega)
          rw [ht, h93, h124, if_pos rfl, if_neg Bool.false_ne_true] at HLP
          clear ht h93 h124
          generalize scn noBr s (E + 1) = F at *
          obtain ⟨n, rfl⟩ : ∃ n, F = E + 1 + n := ⟨F - (E + 1), by omega⟩
          by_cases hF : E + 1 + n < s.size
          · rw [if_pos hF, show (((E + 1 + n : Nat) : Int) - ((E + 1 : Nat) : Int)) = (n : Int) by omega] at HIX
            by_cases hn : n = 0
            · subst hn
              have HF := hide (HPN.out (by rw [HLP.out, if_neg (fun h => by omega)]))
              clear HPS HPN HLP
              go_wp2_with (first | (go_at_call 245; refine (HTG.out _).mono ?_; rintro e w' ⟨rfl, hw⟩; subst w') | (go_at_call_of 133 (Value.string ⟨#[93, 93]⟩); (with_reducible refine (H93.out _).mono ?_); rintro e w' ⟨rfl, hw⟩; subst w') | (go_at_call_of 133 (Value.string ⟨#[124]⟩); (with_reducible refine (H124.out _).mono ?_); rintro e w' ⟨rfl, hw⟩; subst w') | (go_at_call 160; refine (HIX.out _).mono ?_; rintro e w3 ⟨rfl, hb3⟩; have HN3 := hide (HN.out.below hb3 HN.out.lt); have HB3 := hide (below_chainS HBA.out hb3); obtain ⟨y0, y1, y2, y3, y4, y5, y6, yf, yl⟩ := HN3.out.seven; clear hb3))
              refine bodyPost_ret (results_sp (P := Tryz.prog) (by rfl) _ _ w.heap.size 90 _ (0, 0) _ rfl (seven_set HN3.out) Tryz.underlying90 rfl (by kernel_rfl)) rfl ?_
              exact HF.out _ (below_seven HB3.out (Nat.le_refl _))
            · have i5 : ¬ (n : Int) < 1 := by omega
              have i6 : (E : Int) + 1 + n ≤ (s.size : Int) := by omega
              have H93b := hide (show ∀ W, Calls Tryz.prog 133 #[.string (s.extract (E + 1 + n) s.size), .string ⟨#[93, 93]⟩] W (fun e w' => e = .returned (.bool (two s (E + 1 + n) 93)) ∧ w' = W) from fun W => has2_at s (E + 1 + n) 93 (by decide) W)
              cases hb : two s (E + 1 + n) 93 with
              | false =>
                rw [hb] at H93b
                have HF := hide (HPN.out (by rw [HLP.out, hb, if_neg (fun h => absurd h.2.2 Bool.false_ne_true)]))
                clear HPS HPN HLP hb
                go_wp2_with (first | (go_at_call 245; refine (HTG.out _).mono ?_; rintro e w' ⟨rfl, hw⟩; subst w') | (go_at_call 133; (first | (with_reducible refine (H93.out _).mono ?_) | (with_reducible refine (H124.out _).mono ?_) | (with_reducible refine (H93b.out _).mono ?_)); rintro e w' ⟨rfl, hw⟩; subst w') | (go_at_call 160; refine (HIX.out _).mono ?_; rintro e w3 ⟨rfl, hb3⟩; have HN3 := hide (HN.out.below hb3 HN.out.lt); have HB3 := hide (below_chainS HBA.out hb3); obtain ⟨y0, y1, y2, y3, y4, y5, y6, yf, yl⟩ := HN3.out.seven; clear hb3))
                refine bodyPost_ret (results_sp (P := Tryz.prog) (by rfl) _ _ w.heap.size 90 _ (0, 0) _ rfl (seven_set HN3.out) Tryz.underlying90 rfl (by kernel_rfl)) rfl ?_
                exact HF.out _ (below_seven HB3.out (Nat.le_refl _))
              | true =>
                rw [hb] at H93b
                have i7 : (E : Int) + n + 3 ≤ (s.size : Int) := by have := two_lt hb; omega
                have HF := hide (HPS.out ⟨4, i, E + n + 3, s.extract (i + 2) E, s.extract (E + 1) (E + 1 + n), 0, false⟩ (by
                  rw [HLP.out, hb, if_pos ⟨rfl, by omega, rfl⟩]
                  exact congrArg some (by rw [show E + 1 + n + 2 = E + n + 3 by omega])))
                clear HPS HPN HLP hb
                go_wp2_with (first | (go_at_call 245; refine (HTG.out _).mono ?_; rintro e w' ⟨rfl, hw⟩; subst w') | (go_at_call 133; (first | (with_reducible refine (H93.out _).mono ?_) | (with_reducible refine (H124.out _).mono ?_) | (with_reducible refine (H93b.out _).mono ?_)); rintro e w' ⟨rfl, hw⟩; subst w') | (go_at_call 160; refine (HIX.out _).mono ?_; rintro e w3 ⟨rfl, hb3⟩; have HN3 := hide (HN.out.below hb3 HN.out.lt); have HB3 := hide (below_chainS HBA.out hb3); obtain ⟨y0, y1, y2, y3, y4, y5, y6, yf, yl⟩ := HN3.out.seven; clear hb3))
                refine bodyPost_ret (results_sp (P := Tryz.prog) (by rfl) _ _ w.heap.size 90 _ (0, 0) _ rfl (seven_set HN3.out) Tryz.underlying90 rfl (by kernel_rfl)) rfl ?_
                exact HF.out _ _ (by simp only [Sp.vals, Int.natCast_add, Int.cast_ofNat_Int] <;> rfl) (below_seven HB3.out (Nat.le_refl _))
          · rw [if_neg hF] at HIX
            have HF := hide (HPN.out (by rw [HLP.out, if_neg (fun h => hF (by have := two_lt h.2.2; omega))]))
            clear HPS HPN HLP
            go_wp2_with (first | (go_at_call 245; refine (HTG.out _).mono ?_; rintro e w' ⟨rfl, hw⟩; subst w') | (go_at_call_of 133 (Value.string ⟨#[93, 93]⟩); (with_reducible refine (H93.out _).mono ?_); rintro e w' ⟨rfl, hw⟩; subst w') | (go_at_call_of 133 (Value.string ⟨#[124]⟩); (with_reducible refine (H124.out _).mono ?_); rintro e w' ⟨rfl, hw⟩; subst w') | (go_at_call 160; refine (HIX.out _).mono ?_; rintro e w3 ⟨rfl, hb3⟩; have HN3 := hide (HN.out.below hb3 HN.out.lt); have HB3 := hide (below_chainS HBA.out hb3); obtain ⟨y0, y1, y2, y3, y4, y5, y6, yf, yl⟩ := HN3.out.seven; clear hb3))
            refine bodyPost_ret (results_sp (P := Tryz.prog) (by rfl) _ _ w.heap.size 90 _ (0, 0) _ rfl (seven_set HN3.out) Tryz.underlying90 rfl (by kernel_rfl)) rfl ?_
            exact HF.out _ (below_seven HB3.out (Nat.le_refl _))

theorem isDg_out {c : UInt8} (h : isDg c = true) : 48 ≤ c.toNat ∧ c.toNat ≤ 57 := of_decide_eq_true h

/-- Digits, read. -/
theorem atoi_dg {l : List UInt8} (h0 : l ≠ []) (h : ∀ c ∈ l, isDg c = true) : Lib.atoi l = some ((dgN l : Nat) : Int) := by
  match l, h0 with
  | c :: t, _ =>
    have hc := isDg_out (h c (List.mem_cons_self ..))
    have e1 : (c == 45) = false := beq_eq_false_iff_ne.2 fun h => by rw [h] at hc; exact absurd hc.1 (by decide)
    have e2 : (c == 43) = false := beq_eq_false_iff_ne.2 fun h => by rw [h] at hc; exact absurd hc.1 (by decide)
    have e3 : Lib.decNat (c :: t) = some (dgN (c :: t)) := by
      show Lib.decFrom 0 (c :: t) = _
      rw [decFrom_dg _ _ h]
      rfl
    show (if (c == 45) = true then (Lib.decNat t).map (fun (m : Nat) => -(m : Int)) else if (c == 43) = true then (Lib.decNat t).map (fun (m : Nat) => (m : Int)) else (Lib.decNat (c :: t)).map fun (m : Nat) => (m : Int)) = _
    rw [e1, e2, e3]
    rfl

theorem ext_mem {s : ByteArray} {p : UInt8 → Bool} {a E : Nat} (he : scn p s a = E) : ∀ c ∈ (s.extract a E).data.toList, p c = true := by
  intro c hc
  obtain ⟨j, hj, rfl⟩ := List.getElem_of_mem hc
  have hj2 : j < (s.extract a E).size := by rw [Lib.size_eq]; exact hj
  rw [ByteArray.size_extract] at hj2
  have h1 : a + j < s.size := by omega
  have h2 := scn_mid (p := p) (s := s) (k := a) (j := a + j) (by omega) (by omega) h1
  have : (s.extract a E).data.toList[j] = s[a + j] := by
    have hl : a + j < s.data.toList.length := by rw [← Lib.size_eq]; exact h1
    have h9 := Lib.extract_data s a E
    have : (s.extract a E).data.toList[j]? = s.data.toList[a + j]? := by
      rw [h9, List.getElem?_take_of_lt (by omega), List.getElem?_drop]
    rw [List.getElem?_eq_getElem hj, List.getElem?_eq_getElem hl] at this
    exact Option.some.inj this
  rw [this]
  exact h2

theorem ext_one {s : ByteArray} {a E : Nat} (h1 : a < E) (h2 : E ≤ s.size) (c : Nat) : one (s.extract a E) 0 c = one s a c := by
  have h3 : 0 < (s.extract a E).size := by rw [ByteArray.size_extract]; omega
  unfold one
  rw [dif_pos h3, dif_pos (show a < s.size by omega)]
  congr 2
  have hl : a < s.data.toList.length := by rw [← Lib.size_eq]; omega
  have hj : 0 < (s.extract a E).data.toList.length := by rw [← Lib.size_eq]; exact h3
  have : (s.extract a E).data.toList[0]? = s.data.toList[a]? := by
    rw [Lib.extract_data, List.getElem?_take_of_lt (by omega), List.getElem?_drop, Nat.add_zero]
  rw [List.getElem?_eq_getElem hj, List.getElem?_eq_getElem hl] at this
  exact Option.some.inj this

theorem dgN_small {l : List UInt8} (h : ∀ c ∈ l, isDg c = true) (hl : l.length ≤ 7) : dgN l < 10000000 := by
  have h1 := dgN_lt l 0 h
  have h2 : 10 ^ l.length ≤ 10 ^ 7 := Nat.pow_le_pow_right (by decide) hl
  unfold dgN
  omega

set_option maxHeartbeats 6400000 in
set_option maxRecDepth 100000 in
theorem refAt_any (s : ByteArray) (i : Nat) (w : World) (hi : i < s.size) (hs : s.size ≤ 1000000) :
    Calls Tryz.prog 226 #[.string s, .int .i64 i] w (SpOut (refP s i) w) := by
  have HPN : Hid (refP s i = none → ∀ w', Below w.heap.size w w' → SpOut (refP s i) w (.returned (.tuple #[.agg #[.int .i64 0, .int .i64 0, .int .i64 0, .string ⟨#[]⟩, .string ⟨#[]⟩, .int .i64 0, .bool false], .bool false])) w') := hide fun h w' hb => by rw [h]; exact spOut_none hb
  have HPS : Hid (∀ x, refP s i = some x → ∀ (cs : Array Value) w', cs = x.vals.toArray → Below w.heap.size w w' → SpOut (refP s i) w (.returned (.tuple #[.agg cs, .bool true])) w') := hide fun x h cs w' hc hb => by rw [h, hc]; exact spOut_some hb
  generalize SpOut (refP s i) w = PO at *
  have H40 := hide (show ∀ W, Calls Tryz.prog 133 #[.string (s.extract (i) s.size), .string ⟨#[40, 40]⟩] W (fun e w' => e = .returned (.bool (two s (i) 40)) ∧ w' = W) from fun W => has2_at s (i) 40 (by decide) W)
  have i0 : (i : Int) < (s.size : Int) := by omega
  cases h40 : two s i 40 with
  | false =>
    rw [h40] at H40
    have HF := hide (HPN.out (by unfold refP; rw [h40, if_neg (fun h => absurd h.1 Bool.false_ne_true)]))
    clear HPS HPN
    go_enter Tryz.func226, Tryz.ntmps226
    go_upto_region 1 with (fail)
    have HN := hide (Blk.new w 90 #[.int .i64 0, .int .i64 0, .int .i64 0, .string ⟨#[]⟩, .string ⟨#[]⟩, .int .i64 0, .bool false])
    have HBA := hide (bl_alloc (Below.refl w.heap.size w) (.cells #[.int .i64 0, .int .i64 0, .int .i64 0, .string ⟨#[]⟩, .string ⟨#[]⟩, .int .i64 0, .bool false] 90))
    generalize w.alloc (.cells #[.int .i64 0, .int .i64 0, .int .i64 0, .string ⟨#[]⟩, .string ⟨#[]⟩, .int .i64 0, .bool false] 90) = wa at *
    obtain ⟨z0, z1, z2, z3, z4, z5, z6, zf, zl⟩ := HN.out.seven
    go_wp2_with (go_at_call_of 133 (Value.string ⟨#[40, 40]⟩); (refine (H40.out _).mono ?_); rintro e w' ⟨rfl, hw⟩; subst w')
    refine bodyPost_ret (results_sp (P := Tryz.prog) (by rfl) _ _ w.heap.size 90 _ (0, 0) _ rfl (seven_set HN.out) Tryz.underlying90 rfl (by kernel_rfl)) rfl ?_
    exact HF.out _ (below_seven HBA.out (Nat.le_refl _))
  | true =>
    have hsz := two_lt h40
    rw [h40] at H40
    have i1 : (i : Int) + 2 ≤ (s.size : Int) := by omega
    have hge := scn_ge isDg s (i + 2)
    have hle := scn_le (p := isDg) (s := s) (k := i + 2) (by omega)
    obtain ⟨E, hE⟩ : ∃ E, scn isDg s (i + 2) = E := ⟨_, rfl⟩
    have HE := hide hE
    have hall := ext_mem hE
    have HRP : Hid (refP s i = if i + 2 < E ∧ E ≤ i + 9 ∧ one s (i + 2) 48 = false ∧ two s E 41 = true ∧ dgN (s.extract (i + 2) E).data.toList ≤ 1000000 then some ⟨5, i, E + 2, s.extract (i + 2) E, ByteArray.empty, dgN (s.extract (i + 2) E).data.toList, false⟩ else none) := hide (by
      unfold refP
      rw [h40, hE]
      by_cases h : i + 2 < E ∧ E ≤ i + 9 ∧ one s (i + 2) 48 = false ∧ two s E 41 = true ∧ dgN (s.extract (i + 2) E).data.toList ≤ 1000000
      · rw [if_pos ⟨rfl, h⟩, if_pos h]
      · rw [if_neg (fun h9 => h h9.2), if_neg h])
    rw [hE] at hge hle
    clear hE h40
    have H41 := hide (show ∀ W, Calls Tryz.prog 133 #[.string (s.extract (E) s.size), .string ⟨#[41, 41]⟩] W (fun e w' => e = .returned (.bool (two s (E) 41)) ∧ w' = W) from fun W => has2_at s (E) 41 (by decide) W)
    have HIT := hide (fun k (h : k < s.size) W => isDigitT_any s[k] W)
    have i2 : (i : Int) + 2 ≤ (E : Int) := by omega
    have i3 : (E : Int) ≤ (s.size : Int) := by omega
    have hD : (s.extract (i + 2) E).size = E - (i + 2) := by rw [ByteArray.size_extract, Nat.min_eq_left hle]
    go_enter Tryz.func226, Tryz.ntmps226
    go_upto_region 1 with (fail)
    have HN := hide (Blk.new w 90 #[.int .i64 0, .int .i64 0, .int .i64 0, .string ⟨#[]⟩, .string ⟨#[]⟩, .int .i64 0, .bool false])
    have HBA := hide (bl_alloc (Below.refl w.heap.size w) (.cells #[.int .i64 0, .int .i64 0, .int .i64 0, .string ⟨#[]⟩, .string ⟨#[]⟩, .int .i64 0, .bool false] 90))
    generalize w.alloc (.cells #[.int .i64 0, .int .i64 0, .int .i64 0, .string ⟨#[]⟩, .string ⟨#[]⟩, .int .i64 0, .bool false] 90) = wa at *
    obtain ⟨z0, z1, z2, z3, z4, z5, z6, zf, zl⟩ := HN.out.seven
    go_upto_block 0 with (go_at_call_of 133 (Value.string ⟨#[40, 40]⟩); (refine (H40.out _).mono ?_); rintro e w' ⟨rfl, hw⟩; subst w')
    go_cut [6] from 18 to 29 (fun s6 wx => s6 = .int .i64 E ∧ wx = wa)
    case first =>
      go_wp2_with fail
      go_loopw [6] (fun s6 wr => ∃ k : Nat, i + 2 ≤ k ∧ k ≤ s.size ∧ s6 = .int .i64 k ∧ Hid (scn isDg s k = E) ∧ wr = wa) (fun s6 _ => s.size - (intOf s6).toNat)
      case atStart => exact ⟨i + 2, Nat.le_refl _, by omega, by go_num, HE, rfl⟩
      case round =>
        obtain ⟨k, hk1, hk2, rfl, HR, rfl⟩ := hrel
        by_cases hlt : k < s.size
        · have j1 : (k : Int) < (s.size : Int) := by omega
          have HIT1 := hide (HIT.out k hlt)
          cases hb : isDg s[k] with
          | true =>
            rw [hb] at HIT1
            have HR2 := hide ((scn_step hlt hb).trans HR.out)
            clear hb HR
            go_wp2_with (go_at_call 246; refine (HIT1.out _).mono ?_; rintro e w' ⟨rfl, rfl⟩)
            go_roundw
            case rel => exact ⟨k + 1, by omega, hlt, by go_num, HR2, by first | rfl | trivial⟩
            case measure => simp [intOf]; omega
          | false =>
            rw [hb] at HIT1
            have hke : k = E := by have := HR.out; rw [scn_stop hlt hb] at this; exact this
            have HKE := hide hke
            clear hb HR hke
            go_wp2_with (go_at_call 246; refine (HIT1.out _).mono ?_; rintro e w' ⟨rfl, rfl⟩)
            go_meet
            exact ⟨by rw [HKE.out], by first | rfl | trivial⟩
        · obtain rfl : k = s.size := by omega
          have hke : s.size = E := by have := HR.out; rw [scn_over (Nat.le_refl _)] at this; exact this
          have HKE := hide hke
          clear HR hke
          go_wp2
          go_meet
          exact ⟨by rw [HKE.out], by first | rfl | trivial⟩
    case rest =>
    obtain ⟨rfl, rfl⟩ := hcut
    clear HIT H40 HE
    have HALL := hide hall
    clear hall
    go_upto_region 7 with (fail)
    have HO1 := hide (fun (h : i + 2 < E) => ext_one (s := s) h hle 48)
    by_cases h0 : i + 2 = E
    · have HF := hide (HPN.out (by rw [HRP.out, if_neg (fun h => by omega)]))
      obtain ⟨e1, e2⟩ : (s.extract (i + 2) E).toList.isEmpty = true ∧ ((s.extract (i + 2) E).toList == []) = true := by
        have : (s.extract (i + 2) E).data.toList = [] := List.length_eq_zero_iff.1 (by rw [← Lib.size_eq, hD]; omega)
        rw [Lib.toList_data, this]
        exact ⟨rfl, rfl⟩
      clear HPS HPN HRP HO1
      generalize s.extract (i + 2) E = D at *
      go_wp2_with (fail)
      refine bodyPost_ret (results_sp (P := Tryz.prog) (by rfl) _ _ w.heap.size 90 _ (0, 0) _ rfl (seven_set HN.out) Tryz.underlying90 rfl (by kernel_rfl)) rfl ?_
      exact HF.out _ (below_seven HBA.out (Nat.le_refl _))
    · obtain ⟨e1, e2⟩ : (s.extract (i + 2) E).toList.isEmpty = false ∧ ((s.extract (i + 2) E).toList == []) = false := by
        have : (s.extract (i + 2) E).data.toList ≠ [] := fun h => by
          have := congrArg List.length h
          rw [← Lib.size_eq, hD] at this
          simp at this
          omega
        rw [Lib.toList_data]
        exact ⟨by simpa using this, beq_eq_false_iff_ne.2 this⟩
      have hlt : i + 2 < E := by omega
      have HO1 := hide (HO1.out hlt)
      have HAT := hide (fun (hl : (s.extract (i + 2) E).size ≤ 7) W => Tryz.atoi_any (s.extract (i + 2) E) (dgN (s.extract (i + 2) E).data.toList : Nat) (by omega) (atoi_dg (fun h => by rw [Lib.toList_data, h] at e2; cases e2) HALL.out) W)
      have HSM := hide (fun (hl : (s.extract (i + 2) E).size ≤ 7) => dgN_small HALL.out (by rw [← Lib.size_eq]; exact hl))
      generalize s.extract (i + 2) E = D at *
      have i4 : (0 : Int) < (D.size : Int) := by omega
      by_cases h7 : 7 < D.size
      · have i5 : (7 : Int) < (D.size : Int) := by omega
        have HF := hide (HPN.out (by rw [HRP.out, if_neg (fun h => by omega)]))
        clear HPS HPN HRP HO1 HAT HSM
        go_wp2_with (fail)
        refine bodyPost_ret (results_sp (P := Tryz.prog) (by rfl) _ _ w.heap.size 90 _ (0, 0) _ rfl (seven_set HN.out) Tryz.underlying90 rfl (by kernel_rfl)) rfl ?_
        exact HF.out _ (below_seven HBA.out (Nat.le_refl _))
      · have i5 : ¬ (7 : Int) < (D.size : Int) := by omega
        have HAT := hide (HAT.out (by omega))
        have hsm := HSM.out (by omega)
        clear HSM
        generalize dgN D.data.toList = N at *
        cases o1 : one D 0 48 with
        | true =>
          obtain ⟨h8, h9⟩ := one_true o1
          have b1 : ((D[0].toNat : Int) == 48) = true := beq_iff_eq.2 (by omega)
          have HF := hide (HPN.out (by rw [HRP.out, if_neg (fun h => by rw [← HO1.out, o1] at h; exact absurd h.2.2.1 (by decide))]))
          clear HPS HPN HRP HO1 HAT o1 h9
          go_wp2_with (fail)
          refine bodyPost_ret (results_sp (P := Tryz.prog) (by rfl) _ _ w.heap.size 90 _ (0, 0) _ rfl (seven_set HN.out) Tryz.underlying90 rfl (by kernel_rfl)) rfl ?_
          exact HF.out _ (below_seven HBA.out (Nat.le_refl _))
        | false =>
          have h8 : 0 < D.size := by omega
          have h9 := one_false o1 h8
          have b1 : ((D[0].toNat : Int) == 48) = false := beq_eq_false_iff_ne.2 (by omega)
          have HO2 := hide (HO1.out.symm.trans o1)
          clear o1 h9 HO1
          cases h41 : two s E 41 with
          | false =>
            rw [h41] at H41
            have HF := hide (HPN.out (by rw [HRP.out, h41, if_neg (fun h => absurd h.2.2.2.1 Bool.false_ne_true)]))
            clear HPS HPN HRP HAT h41
            go_wp2_with (go_at_call_of 133 (Value.string ⟨#[41, 41]⟩); (with_reducible refine (H41.out _).mono ?_); rintro e w' ⟨rfl, hw⟩; subst w')
            refine bodyPost_ret (results_sp (P := Tryz.prog) (by rfl) _ _ w.heap.size 90 _ (0, 0) _ rfl (seven_set HN.out) Tryz.underlying90 rfl (by kernel_rfl)) rfl ?_
            exact HF.out _ (below_seven HBA.out (Nat.le_refl _))
          | true =>
            rw [h41] at H41
            have i6 : (E : Int) + 2 ≤ (s.size : Int) := by have := two_lt h41; omega
            by_cases hN : N ≤ 1000000
            · have i7 : ¬ (1000000 : Int) < (N : Int) := by omega
              have HF := hide (HPS.out ⟨5, i, E + 2, D, ⟨#[]⟩, N, false⟩ (by rw [HRP.out, h41, if_pos ⟨hlt, by omega, HO2.out, rfl, hN⟩]; rfl))
              clear HPS HPN HRP h41 HO2
              go_wp2_with (first | (go_at_call_of 133 (Value.string ⟨#[41, 41]⟩); (with_reducible refine (H41.out _).mono ?_); rintro e w' ⟨rfl, hw⟩; subst w') | (go_at_call 142; refine (HAT.out _).mono ?_; rintro e w3 ⟨rfl, hb3⟩; have HN3 := hide (HN.out.below hb3 HN.out.lt); have HB3 := hide (below_chainS HBA.out hb3); obtain ⟨y0, y1, y2, y3, y4, y5, y6, yf, yl⟩ := HN3.out.seven; clear hb3))
              refine bodyPost_ret (results_sp (P := Tryz.prog) (by rfl) _ _ w.heap.size 90 _ (0, 0) _ rfl (seven_set HN3.out) Tryz.underlying90 rfl (by kernel_rfl)) rfl ?_
              exact HF.out _ _ (by simp only [Sp.vals, Int.natCast_add, Int.cast_ofNat_Int] <;> rfl) (below_seven HB3.out (Nat.le_refl _))
            · have i7 : (1000000 : Int) < (N : Int) := by omega
              have HF := hide (HPN.out (by rw [HRP.out, if_neg (fun h => hN h.2.2.2.2)]))
              clear HPS HPN HRP h41 HO2
              go_wp2_with (first | (go_at_call_of 133 (Value.string ⟨#[41, 41]⟩); (with_reducible refine (H41.out _).mono ?_); rintro e w' ⟨rfl, hw⟩; subst w') | (go_at_call 142; refine (HAT.out _).mono ?_; rintro e w3 ⟨rfl, hb3⟩; have HN3 := hide (HN.out.below hb3 HN.out.lt); have HB3 := hide (below_chainS HBA.out hb3); obtain ⟨y0, y1, y2, y3, y4, y5, y6, yf, yl⟩ := HN3.out.seven; clear hb3))
              refine bodyPost_ret (results_sp (P := Tryz.prog) (by rfl) _ _ w.heap.size 90 _ (0, 0) _ rfl (seven_set HN3.out) Tryz.underlying90 rfl (by kernel_rfl)) rfl ?_
              exact HF.out _ (below_seven HB3.out (Nat.le_refl _))

end Go.Proofs.YtioppoaijehicaaGreatDoor
