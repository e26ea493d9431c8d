/-
  WALK: Replace with a Replacer's table of two bytes: the counting, one byte counted, and the plain law of what is written.
-/
import Derived.Test.YtjaoiehjhnmahaaGreatDoorRpe
import Derived.Laws.CopyOwn
import Derived.Lib.Bytealg
set_option linter.all false
namespace Go.Proofs.YtjaoiehjhnmahaaGreatDoor
open Go.RowKit Go.Lib

/-- What stands for one byte. -/
def esc1 (b : UInt8) : List UInt8 := if b = 34 then [92, 34] else if b = 92 then [92, 92] else [b]

def escL (l : List UInt8) : List UInt8 := l.flatMap esc1

def escS (s : ByteArray) : ByteArray := ⟨(escL s.data.toList).toArray⟩

/-- How many bytes are written with one more. -/
def cE : List UInt8 → Nat
  | [] => 0
  | b :: l => (if b = 34 ∨ b = 92 then 1 else 0) + cE l

theorem cE_append (a b : List UInt8) : cE (a ++ b) = cE a + cE b := by
  induction a with
  | nil => simp [cE]
  | cons x a ih => simp only [List.cons_append, cE, ih]; omega

theorem cE_count (l : List UInt8) : cE l = countByte l 92 + countByte l 34 := by
  unfold countByte
  induction l with
  | nil => rfl
  | cons x l ih =>
    simp only [cE, ih, List.count_cons]
    by_cases h1 : x = 34
    · subst h1; simp; omega
    · by_cases h2 : x = 92
      · subst h2; simp; omega
      · simp [h1, h2]

theorem cE_le (l : List UInt8) : cE l ≤ l.length := by
  induction l with
  | nil => exact Nat.le_refl _
  | cons x l ih => simp only [cE, List.length_cons]; split <;> omega

theorem escL_append (a b : List UInt8) : escL (a ++ b) = escL a ++ escL b := by simp [escL]

theorem escL_len (l : List UInt8) : (escL l).length = l.length + cE l := by
  induction l with
  | nil => rfl
  | cons x l ih =>
    rw [show x :: l = [x] ++ l from rfl, escL_append, List.length_append, ih, cE_append]
    have : (escL [x]).length = 1 + cE [x] := by
      simp only [escL, List.flatMap_cons, List.flatMap_nil, List.append_nil, esc1, cE]
      by_cases h1 : x = 34
      · subst h1; rfl
      · by_cases h2 : x = 92
        · subst h2; rfl
        · simp [h1, h2]
    rw [this]; simp only [List.length_append, List.length_singleton]; omega

theorem escL_zero (l : List UInt8) (h : cE l = 0) : escL l = l := by
  induction l with
  | nil => rfl
  | cons x l ih =>
    simp only [cE] at h
    have hx : ¬ (x = 34 ∨ x = 92) := fun hx => by rw [if_pos hx] at h; omega
    have : escL (x :: l) = esc1 x ++ escL l := by simp [escL]
    rw [this, ih (by omega)]
    unfold esc1
    rw [if_neg (fun e => hx (.inl e)), if_neg (fun e => hx (.inr e))]
    rfl

theorem escS_zero (s : ByteArray) (h : cE s.data.toList = 0) : escS s = s := by
  unfold escS
  rw [escL_zero _ h]

theorem take_next {l : List UInt8} {k : Nat} (h : k < l.length) : l.take (k + 1) = l.take k ++ [l[k]] := by
  rw [List.take_add_one, List.getElem?_eq_getElem h]; rfl

/-- A byte as a cell. -/
def byteV (b : UInt8) : Value := .int .u8 (b.toNat : Int)

/-- A row of N bytes whose first are written. -/
def bufL (N : Nat) (l : List UInt8) : List Value := l.map byteV ++ List.replicate (N - l.length) (.int .u8 0)

theorem bufL_len {N : Nat} {l : List UInt8} (h : l.length ≤ N) : (bufL N l).length = N := by simp [bufL]; omega

theorem bufL_splice {N : Nat} {l cs : List UInt8} (h : l.length + cs.length ≤ N) : splice (bufL N l) l.length (cs.map byteV) = bufL N (l ++ cs) := by
  unfold splice bufL
  have e1 : (l.map byteV ++ List.replicate (N - l.length) (Value.int .u8 0)).take l.length = l.map byteV := by
    rw [List.take_append_of_le_length (by simp)]; exact List.take_of_length_le (by simp)
  have e2 : (l.map byteV ++ List.replicate (N - l.length) (Value.int .u8 0)).drop (l.length + (cs.map byteV).length) = List.replicate (N - (l ++ cs).length) (Value.int .u8 0) := by
    rw [List.drop_append, List.drop_eq_nil_of_le (by simp), List.nil_append, List.drop_replicate]
    congr 1
    simp; omega
  rw [e1, e2]
  simp

theorem bufL_set {N : Nat} {l : List UInt8} {b : UInt8} (h : l.length < N) : (bufL N l).toArray.setIfInBounds l.length (byteV b) = (bufL N (l ++ [b])).toArray := by
  rw [List.setIfInBounds_toArray]
  congr 1
  unfold bufL
  rw [List.set_append_right _ _ (by simp)]
  rw [show N - l.length = (N - (l ++ [b]).length) + 1 from by simp; omega, List.replicate_succ]
  simp

theorem info_u8R : (Tryz.prog.info? 5).map (fun i => (i.zero, i.size, i.bytes)) = some (some (.int .u8 0), 1, 1) := by kernel_rfl

theorem make_bytes (N : Nat) (w : World) (h : N ≤ 1000000) : (Instr.makeSlice 44 (.int .i64 N) (.int .i64 N)).run Tryz.prog w = .ok (.slice (some ⟨w.heap.size, 0, none⟩) N N) (w.alloc (.cells (bufL N []).toArray 5)) := by
  obtain ⟨i0, hi, hz0, hz1, hz2⟩ := info_parts info_u8R
  have := run_make (P := Tryz.prog) w 44 5 i0 (.int .u8 0) Tryz.underlying44 hi hz0 .i64 .i64 N N (by omega) (by omega) (by rw [hz2]; omega) (by omega)
  have e : madeCells (Value.int .u8 0).cells ((N : Int).toNat * 1) = (bufL N []).toArray := by
    rw [Int.toNat_natCast, Nat.mul_one]
    unfold madeCells bufL
    simp only [List.map_nil, List.length_nil, Nat.sub_zero, List.nil_append]
    apply Array.ext_getElem?
    intro j
    by_cases hj : j < N
    · simp [Value.cells, hj, Nat.mod_one]
    · simp [hj]
  rw [this, hz1, e]
  rfl

set_option maxRecDepth 100000 in
/-- strings.Count at one byte. -/
theorem countOne_any (s : ByteArray) (c : UInt8) (w : World) :
    Calls Tryz.prog 153 #[.string s, .string ⟨#[c]⟩] w fun e w' => e = .returned (.int .i64 (countByte s.data.toList c)) ∧ w' = w := by
  go_enter Tryz.func153, Tryz.ntmps153
  go_wp2
  rw [run_callFunc_extern Tryz.func193 (by kernel_rfl) (by kernel_rfl) (by kernel_rfl) (e := Extern.BytealgCount.count) (by kernel_rfl), Lib.run_countString]
  simp only [Result.andThen]
  rw [Oper.upon_value]
  go_wp2
  go_ret
  exact ⟨rfl, rfl⟩

end Go.Proofs.YtjaoiehjhnmahaaGreatDoor
/-
  WALK: Replace with a Replacer's table of two bytes.
-/
namespace Go.Proofs.YtjaoiehjhnmahaaGreatDoor
open Go.RowKit Go.Lib

/-- What the walk reads of the table. -/
structure TabAt (w : World) (gb ga gc gt ca cc ct : Nat) : Prop where
  other : ∀ i, i < 256 → i ≠ 34 → i ≠ 92 → w.cell? ⟨gb, i, none⟩ = some (.slice none 0 0)
  c92 : w.cell? ⟨gb, 92, none⟩ = some (.slice (some ⟨ga, 0, none⟩) 2 ca)
  c34 : w.cell? ⟨gb, 34, none⟩ = some (.slice (some ⟨gc, 0, none⟩) 2 cc)
  c256 : w.cell? ⟨gb, 256, none⟩ = some (.slice (some ⟨gt, 0, none⟩) 2 ct)
  a0 : w.cell? ⟨ga, 0, none⟩ = some (.int .u8 92)
  a1 : w.cell? ⟨ga, 1, none⟩ = some (.int .u8 92)
  b0 : w.cell? ⟨gc, 0, none⟩ = some (.int .u8 92)
  b1 : w.cell? ⟨gc, 1, none⟩ = some (.int .u8 34)
  t0 : w.cell? ⟨gt, 0, none⟩ = some (.string ⟨#[92]⟩)
  t1 : w.cell? ⟨gt, 1, none⟩ = some (.string ⟨#[34]⟩)
  lb : gb < w.heap.size
  la : ga < w.heap.size
  lc : gc < w.heap.size
  lt : gt < w.heap.size

theorem RepTab.at_ {w : World} {lo gb : Nat} (h : RepTab w lo gb) : ∃ ga gc gt ca cc ct, TabAt w gb ga gc gt ca cc ct := by
  obtain ⟨cs, ga, gc, gt, ca, cc, ct, h0, h1, h2, h3, h4, a1, a2, b1, b2, c1, c2, e1, e2, e3, e4, e5, e6⟩ := h.tab
  have hc : ∀ i, w.cell? ⟨gb, i, none⟩ = cs[i]? := fun i => cell_of_row w gb i cs _ _ h0
  exact ⟨ga, gc, gt, ca, cc, ct, fun i hi hn hm => (hc i).trans (h1 i hi hn hm), (hc _).trans h2, (hc _).trans h3, (hc _).trans h4, e1, e2, e3, e4, e5, e6, h.lt_, a2, b2, c2⟩

theorem TabAt.below {w w' : World} {gb ga gc gt ca cc ct : Nat} (h : TabAt w gb ga gc gt ca cc ct) (hb : Below w.heap.size w w') : TabAt w' gb ga gc gt ca cc ct := by
  have hk : ∀ g i, g < w.heap.size → w'.cell? ⟨g, i, none⟩ = w.cell? ⟨g, i, none⟩ := fun g i hg => hb.cell (p := ⟨g, i, none⟩) hg
  have hs := hb.size
  exact ⟨fun i h1 h2 h3 => (hk _ _ h.lb).trans (h.other i h1 h2 h3), (hk _ _ h.lb).trans h.c92, (hk _ _ h.lb).trans h.c34, (hk _ _ h.lb).trans h.c256, (hk _ _ h.la).trans h.a0, (hk _ _ h.la).trans h.a1, (hk _ _ h.lc).trans h.b0, (hk _ _ h.lc).trans h.b1, (hk _ _ h.lt).trans h.t0, (hk _ _ h.lt).trans h.t1,
    Nat.lt_of_lt_of_le h.lb hs, Nat.lt_of_lt_of_le h.la hs, Nat.lt_of_lt_of_le h.lc hs, Nat.lt_of_lt_of_le h.lt hs⟩

theorem drewN_ex {w W : World} (h : ∃ n, W = w.drewN n) : ∃ n, W = w.drewN n := h

theorem dr_drew {w W : World} (h : ∃ n, W = w.drewN n) : ∃ n, W.drew = w.drewN n := by
  obtain ⟨n, rfl⟩ := h
  exact ⟨n + 1, rfl⟩

theorem dr_drewN {w W : World} {m : Nat} (h : ∃ n, W = w.drewN n) : ∃ n, W.drewN m = w.drewN n := by
  obtain ⟨n, rfl⟩ := h
  exact ⟨n + m, World.drewN_drewN _ _ _⟩

theorem cE_next {s : ByteArray} {k : Nat} (hk : k < s.size) : cE (s.data.toList.take (k + 1)) = cE (s.data.toList.take k) + (if s[k] = 34 ∨ s[k] = 92 then 1 else 0) := by
  rw [take_next (show k < s.data.toList.length by simpa using hk), cE_append]
  rfl

theorem TabAt.byte_ {w : World} {gb ga gc gt ca cc ct : Nat} (h : TabAt w gb ga gc gt ca cc ct) (b : UInt8) :
    (b = 92 ∧ w.cell? ⟨gb, b.toNat, none⟩ = some (.slice (some ⟨ga, 0, none⟩) 2 ca)) ∨ (b = 34 ∧ w.cell? ⟨gb, b.toNat, none⟩ = some (.slice (some ⟨gc, 0, none⟩) 2 cc)) ∨
      ((¬ b = 34 ∧ ¬ b = 92) ∧ w.cell? ⟨gb, b.toNat, none⟩ = some (.slice none 0 0) ∧ b.toNat < 256) := by
  by_cases h1 : b = 92
  · subst h1; exact .inl ⟨rfl, h.c92⟩
  · by_cases h2 : b = 34
    · subst h2; exact .inr (.inl ⟨rfl, h.c34⟩)
    · exact .inr (.inr ⟨⟨h2, h1⟩, h.other _ b.toNat_lt (fun e => h2 (UInt8.toNat_inj.1 e)) (fun e => h1 (UInt8.toNat_inj.1 e)), b.toNat_lt⟩)

theorem esc_next {s : ByteArray} {k : Nat} (hk : k < s.size) : escL (s.data.toList.take (k + 1)) = escL (s.data.toList.take k) ++ esc1 s[k] := by
  rw [take_next (show k < s.data.toList.length by simpa using hk), escL_append]
  have : escL [s.data.toList[k]'(by simpa using hk)] = esc1 (s.data.toList[k]'(by simpa using hk)) := by simp [escL]
  rw [this]
  rfl

theorem esc_room {s : ByteArray} {k : Nat} (hk : k < s.size) : (escL (s.data.toList.take k)).length + (esc1 s[k]).length ≤ (escL s.data.toList).length := by
  have h := congrArg List.length (esc_next hk)
  rw [List.length_append] at h
  have h2 : s.data.toList = s.data.toList.take (k + 1) ++ s.data.toList.drop (k + 1) := (List.take_append_drop _ _).symm
  have h3 : (escL s.data.toList).length = (escL (s.data.toList.take (k + 1))).length + (escL (s.data.toList.drop (k + 1))).length := by
    rw [← List.length_append, ← escL_append, ← h2]
  omega

theorem two_cells {w : World} {g : Nat} {x y : UInt8} (h0 : w.cell? ⟨g, 0, none⟩ = some (byteV x)) (h1 : w.cell? ⟨g, 1, none⟩ = some (byteV y)) : ∀ j v, ([x, y].map byteV)[j]? = some v → w.cell? ((⟨g, 0, none⟩ : Addr).add j) = some v := by
  intro j v hv
  match j, hv with
  | 0, hv => exact h0.trans hv
  | 1, hv => exact h1.trans hv
  | j + 2, hv => simp at hv

theorem two_one {l : List UInt8} : ∀ v ∈ l.map byteV, v.oneCell' = true := by
  intro v hv
  obtain ⟨b, _, rfl⟩ := List.mem_map.1 hv
  rfl

theorem buf_store {wr : World} {g N q : Nat} {l : List UInt8} {b : UInt8} {t : TypeId} {m : Nat × Nat} (h : wr.heap[g]? = some (.cells (bufL N l).toArray t m)) (hq : l.length = q) (hl : q < N) : (wr.setCell ⟨g, q, none⟩ (byteV b)).heap[g]? = some (.cells (bufL N (l ++ [b])).toArray t m) := by
  subst hq
  simp only [World.setCell, Array.getElem?_modify, h, if_pos, Option.map_some]
  rw [← bufL_set hl]
  rfl

theorem buf_cell {wr : World} {g N q : Nat} {l : List UInt8} {t : TypeId} (h : wr.heap[g]? = some (.cells (bufL N l).toArray t (0, 0))) (hq : l.length = q) (hl : q < N) : wr.cell? ⟨g, q, none⟩ = some (.int .u8 0) ∧ wr.frozen? ⟨g, q, none⟩ = false := by
  subst hq
  constructor
  · rw [cell_of_row wr g l.length _ _ _ h]
    simp only [List.getElem?_toArray]
    unfold bufL
    rw [List.getElem?_append_right (by simp), List.length_map, Nat.sub_self, List.getElem?_replicate, if_pos (by omega)]
  · simp [World.frozen?, h]

theorem buf_back {w : World} {g N : Nat} {s : ByteArray} (h : w.heap[g]? = some (.cells (bufL N (escL s.data.toList)).toArray 5 (0, 0))) (hN : (escL s.data.toList).length = N) :
    (convert 44 9 (.slice (some ⟨g, 0, none⟩) N N)).run Tryz.prog w = .ok (.string (escS s)) w := by
  have h2 := run_convert_bytes_arg (P := Tryz.prog) w 44 5 Tryz.underlying44 Tryz.underlying5 g 0 N N ((escL s.data.toList).map fun b => (b.toNat : Int)) (by rw [List.length_map, hN]) (fun i hi => by
    rw [cell_of_row w g (0 + i) _ _ _ h, Nat.zero_add, List.getElem?_toArray]
    unfold bufL
    have hi2 : i < (escL s.data.toList).length := by rw [hN]; exact hi
    rw [List.getElem?_append_left (by simpa using hi2), List.getElem?_map, List.getElem?_eq_getElem hi2, List.getD_eq_getElem?_getD, List.getElem?_map, List.getElem?_eq_getElem hi2]
    rfl) 9 Tryz.underlying9
  rw [h2]
  refine congrArg (fun x => Result.ok (Value.string x) w) ?_
  unfold escS
  generalize escL s.data.toList = l
  unfold strOfNums
  rw [List.map_map, show ((fun n : Int => UInt8.ofNat n.toNat) ∘ fun b : UInt8 => (b.toNat : Int)) = id from funext fun b => by simp, List.map_id]

theorem byteR92 (h : 0 < (⟨#[92]⟩ : ByteArray).size) : (((⟨#[92]⟩ : ByteArray)[0]'h).toNat : Int) = 92 := rfl

theorem byteR34 (h : 0 < (⟨#[34]⟩ : ByteArray).size) : (((⟨#[34]⟩ : ByteArray)[0]'h).toNat : Int) = 34 := rfl
attribute [local go_sem ↓] byteR92 byteR34

set_option maxRecDepth 100000 in
set_option maxHeartbeats 3200000 in
theorem tabReplace_any (s : ByteArray) (w : World) (gb ga gc gt ca cc ct : Nat) (h : TabAt w gb ga gc gt ca cc ct) (hs : s.size ≤ 100000) :
    Calls Tryz.prog 332 #[.pointer (some ⟨gb, 0, none⟩), .string s] w fun e w' => e = .returned (.string (escS s)) ∧ Below w.heap.size w w' := by
  have k92 := h.c92
  have k34 := h.c34
  have k256 := h.c256
  have kt0 := h.t0
  have kt1 := h.t1
  have H := hide h
  clear h
  have hqT : ∀ (w : World) (a : Option Addr) (n c n' c' : Nat), (binOp .eql 44 (.slice a n c) (.slice none n' c')).run Tryz.prog w = .ok (.bool a.isNone) w := fun w a n c n' c' => Lib.run_eql_slice_nil w _ _ a n c n' c' Tryz.underlying44
  have hcE := cE_count s.data.toList
  have hcL := cE_le s.data.toList
  have hsz : s.data.toList.length = s.size := by simp
  rw [hsz] at hcL
  go_enter Tryz.func332, Tryz.ntmps332
  go_upto_if 26 with fail
  generalize hd : decide ((16 : Int) ≤ (s.size : Int)) = bd
  have HD := hide hd
  clear hd
  go_cut [5, 6] from 27 to 80 (fun s5 s6 wx => s5 = .int .i64 (s.size + cE s.data.toList : Nat) ∧ s6 = .bool (cE s.data.toList != 0) ∧ ∃ n, wx = w.drewN n)
  case first =>
    by_cases h16 : bd = true
    · subst h16
      have HC1 := hide (countOne_any s 92)
      have HC2 := hide (countOne_any s 34)
      generalize countByte s.data.toList 92 = m at *
      generalize countByte s.data.toList 34 = n at *
      generalize cE s.data.toList = ce at *
      have HCE := hide hcE
      have hm : (m : Int) ≤ 100000 := by omega
      have hn : (n : Int) ≤ 100000 := by omega
      have hs' : (s.size : Int) ≤ 100000 := by omega
      clear hcE hcL hsz
      by_cases hm0 : m = 0 <;> by_cases hn0 : n = 0
      · subst hm0
        subst hn0
        go_wp2_with fail
        refine wp_loop_rounds 3 ?_
        rw [rounds_succ]
        go_wp2_with (go_at_call 153; refine (HC1.out _).mono ?_; rintro e w' ⟨rfl, rfl⟩)
        rw [rounds_succ]
        go_wp2_with (go_at_call 153; refine (HC2.out _).mono ?_; rintro e w' ⟨rfl, rfl⟩)
        rw [rounds_succ]
        go_wp2
        go_meet
        refine ⟨?_, ?_, ?_⟩
        rotate_left
        rotate_left
        · exact drewN_ex (by repeat (first | exact ⟨0, rfl⟩ | refine dr_drew ?_ | refine dr_drewN ?_))
        · exact congrArg (Value.int .i64) (by have := HCE.out; omega)
        · exact congrArg Value.bool (by rw [HCE.out]; rfl)
      · subst hm0
        have hn1 : ((n : Int) != 0) = true := by simp; omega
        go_wp2_with fail
        refine wp_loop_rounds 3 ?_
        rw [rounds_succ]
        go_wp2_with (go_at_call 153; refine (HC1.out _).mono ?_; rintro e w' ⟨rfl, rfl⟩)
        rw [rounds_succ]
        go_wp2_with (go_at_call 153; refine (HC2.out _).mono ?_; rintro e w' ⟨rfl, rfl⟩)
        go_region
        go_wp2_with fail
        rw [rounds_succ]
        go_wp2
        go_meet
        refine ⟨?_, ?_, ?_⟩
        rotate_left
        rotate_left
        · exact drewN_ex (by repeat (first | exact ⟨0, rfl⟩ | refine dr_drew ?_ | refine dr_drewN ?_))
        · exact congrArg (Value.int .i64) (by have := HCE.out; omega)
        · exact congrArg Value.bool (bne_iff_ne.2 (by have := HCE.out; omega)).symm
      · have hm1 : ((m : Int) != 0) = true := by simp; omega
        subst hn0
        go_wp2_with fail
        refine wp_loop_rounds 3 ?_
        rw [rounds_succ]
        go_wp2_with (go_at_call 153; refine (HC1.out _).mono ?_; rintro e w' ⟨rfl, rfl⟩)
        go_region
        go_wp2_with fail
        rw [rounds_succ]
        go_wp2_with (go_at_call 153; refine (HC2.out _).mono ?_; rintro e w' ⟨rfl, rfl⟩)
        rw [rounds_succ]
        go_wp2
        go_meet
        refine ⟨?_, ?_, ?_⟩
        rotate_left
        rotate_left
        · exact drewN_ex (by repeat (first | exact ⟨0, rfl⟩ | refine dr_drew ?_ | refine dr_drewN ?_))
        · exact congrArg (Value.int .i64) (by have := HCE.out; omega)
        · exact congrArg Value.bool (bne_iff_ne.2 (by have := HCE.out; omega)).symm
      · have hm1 : ((m : Int) != 0) = true := by simp; omega
        have hn1 : ((n : Int) != 0) = true := by simp; omega
        go_wp2_with fail
        refine wp_loop_rounds 3 ?_
        rw [rounds_succ]
        go_wp2_with (go_at_call 153; refine (HC1.out _).mono ?_; rintro e w' ⟨rfl, rfl⟩)
        go_region
        go_wp2_with fail
        rw [rounds_succ]
        go_wp2_with (go_at_call 153; refine (HC2.out _).mono ?_; rintro e w' ⟨rfl, rfl⟩)
        go_region
        go_wp2_with fail
        rw [rounds_succ]
        go_wp2
        go_meet
        refine ⟨?_, ?_, ?_⟩
        rotate_left
        rotate_left
        · exact drewN_ex (by repeat (first | exact ⟨0, rfl⟩ | refine dr_drew ?_ | refine dr_drewN ?_))
        · exact congrArg (Value.int .i64) (by have := HCE.out; omega)
        · exact congrArg Value.bool (bne_iff_ne.2 (by have := HCE.out; omega)).symm
    · obtain rfl : bd = false := Bool.eq_false_iff.2 h16
      clear hcE HD h16
      go_wp2_with fail
      go_loopw [5, 6, 10] (fun s5 s6 i wr => ∃ k : Nat, k ≤ s.size ∧ i = .int .i64 k ∧ s5 = .int .i64 (s.size + cE (s.data.toList.take k) : Nat) ∧ s6 = .bool (cE (s.data.toList.take k) != 0) ∧ ∃ n, wr = w.drewN n) (fun _ _ i _ => s.size - (intOf i).toNat)
      case atStart => exact ⟨0, Nat.zero_le _, rfl, rfl, rfl, 0, rfl⟩
      case round =>
        obtain ⟨k, hk, rfl, rfl, rfl, nw, rfl⟩ := hrel
        have hp : cE (s.data.toList.take k) ≤ k := Nat.le_trans (cE_le _) (by simp; omega)
        by_cases hlt : k < s.size
        · have HQ := hide (cE_next hlt)
          have i1 : (k : Int) < (s.size : Int) := by omega
          have hs' : (s.size : Int) ≤ 100000 := by omega
          generalize cE (s.data.toList.take k) = p at *
          have hp' : (p : Int) ≤ 100000 := by omega
          rcases H.out.byte_ s[k] with ⟨e1, e2⟩ | ⟨e1, e2⟩ | ⟨e1, e2, e3⟩
          · have k1 : (s[k].toNat : Int) = 92 := by rw [e1]; rfl
            have hq := HQ.out
            rw [if_pos (.inr e1)] at hq
            have HQ' := hide hq
            clear hq HQ
            go_wp2
            go_roundw
            case rel => exact ⟨k + 1, by omega, by go_num, congrArg (Value.int .i64) (by have := HQ'.out; omega), congrArg Value.bool (bne_iff_ne.2 (by have := HQ'.out; omega)).symm, nw, rfl⟩
            case measure => simp [intOf]; omega
          · have k1 : (s[k].toNat : Int) = 34 := by rw [e1]; rfl
            have hq := HQ.out
            rw [if_pos (.inl e1)] at hq
            have HQ' := hide hq
            clear hq HQ
            go_wp2
            go_roundw
            case rel => exact ⟨k + 1, by omega, by go_num, congrArg (Value.int .i64) (by have := HQ'.out; omega), congrArg Value.bool (bne_iff_ne.2 (by have := HQ'.out; omega)).symm, nw, rfl⟩
            case measure => simp [intOf]; omega
          · have e3' : (s[k].toNat : Int) < 256 := by omega
            have hq := HQ.out
            rw [if_neg (fun e => e.elim e1.1 e1.2)] at hq
            have HQ' := hide hq
            clear hq HQ e1
            go_wp2
            go_roundw
            case rel => exact ⟨k + 1, by omega, by go_num, congrArg (Value.int .i64) (by have := HQ'.out; omega), congrArg Value.bool (by rw [HQ'.out, Nat.add_zero]), nw, rfl⟩
            case measure => simp [intOf]; omega
        · obtain rfl : k = s.size := by omega
          have HT := hide (show s.data.toList.take s.size = s.data.toList from List.take_of_length_le (by rw [hsz]; exact Nat.le_refl _))
          have i1 : ¬ (s.size : Int) < (s.size : Int) := by omega
          go_wp2
          go_meet
          exact ⟨congrArg (Value.int .i64) (by rw [HT.out]; omega), by rw [HT.out], nw, rfl⟩
  case rest =>
    obtain ⟨rfl, rfl, nw, rfl⟩ := hcut
    by_cases h0 : cE s.data.toList = 0
    · have HE := hide (escS_zero s h0)
      rw [show (cE s.data.toList != 0) = false from by rw [h0]; rfl]
      go_wp2
      go_ret
      exact ⟨by rw [HE.out]; rfl, below_drewN (Below.refl _ _) _⟩
    · rw [show (cE s.data.toList != 0) = true from bne_iff_ne.2 h0]
      have hmk := make_bytes (s.size + cE s.data.toList) (w.drewN nw) (by omega)
      have HN := hide (show (escL s.data.toList).length = s.size + cE s.data.toList from by rw [escL_len, hsz])
      have hsN : s.size + cE s.data.toList ≤ 200000 := by omega
      generalize s.size + cE s.data.toList = N at *
      obtain ⟨i0, ui, uz0, uz1, uz2⟩ := info_parts info_u8R
      have HU := hide (show (Tryz.prog.info? 5).map (·.size) = some 1 from by rw [ui]; exact congrArg some uz1)
      clear ui uz0 uz1 uz2 hcE
      replace hmk : (Instr.makeSlice 44 (.int .i64 N) (.int .i64 N)).run Tryz.prog (w.drewN nw) = .ok (.slice (some ⟨w.heap.size, 0, none⟩) N N) ((w.drewN nw).alloc (.cells (bufL N []).toArray 5)) := hmk
      go_wp2_with fail
      have HR0 := hide (heap_alloc_new (w.drewN nw) (.cells (bufL N []).toArray 5))
      have HB0 := hide (bl_alloc (below_drewN (Below.refl w.heap.size w) nw) (.cells (bufL N []).toArray 5))
      clear hmk
      generalize (w.drewN nw).alloc (.cells (bufL N []).toArray 5) = W0 at *
      replace HR0 := hide (show W0.heap[w.heap.size]? = some (.cells (bufL N []).toArray 5 (0, 0)) from HR0.out)
      go_loopw [13, 14] (fun sj i wr => ∃ (k q : Nat) (l : List UInt8), k ≤ s.size ∧ q ≤ N ∧ i = .int .i64 k ∧ sj = .int .i64 q ∧ Hid (l = escL (s.data.toList.take k) ∧ l.length = q) ∧ Hid (wr.heap[w.heap.size]? = some (.cells (bufL N l).toArray 5 (0, 0))) ∧ Hid (Below w.heap.size w wr)) (fun _ i _ => s.size - (intOf i).toNat)
      case atStart => exact ⟨0, 0, [], Nat.zero_le _, Nat.zero_le _, rfl, rfl, hide ⟨rfl, rfl⟩, HR0, HB0⟩
      case round =>
        clear HR0 HB0
        obtain ⟨k, q, l, hk, hqN, rfl, rfl, HL, HR, HB⟩ := hrel
        by_cases hlt : k < s.size
        · have hT := H.out.below HB.out
          have HLN := hide (esc_next hlt)
          have HTOT := hide (esc_room hlt)
          have i1 : (k : Int) < (s.size : Int) := by omega
          rcases hT.byte_ s[k] with ⟨e1, e2⟩ | ⟨e1, e2⟩ | ⟨e1, e2, e3⟩
          · have k1 : (s[k].toNat : Int) = 92 := by rw [e1]; rfl
            have w1 := hT.c92
            have hr2 : q + 2 ≤ N := by
              have := HTOT.out
              rw [HN.out, ← HL.out.1, HL.out.2, e1] at this
              exact this
            have hln := HLN.out
            rw [← HL.out.1, show esc1 s[k] = [92, 92] from by rw [e1]; rfl] at hln
            have HLN2 := hide hln
            clear hln HLN HTOT e1 e2
            have hcs : (([92, 92] : List UInt8).map byteV).length = Nat.min 2 (N - q) := by rw [show Nat.min 2 (N - q) = 2 from Nat.min_eq_left (by omega)]; rfl
            have hnq : ¬ N = q := by omega
            go_wp2_with fail
            go_region_law (refine step_copy_splice rfl (.tmp 105) (.tmp 111) 44 44 rfl 5 Tryz.underlying44 HU.out (some ⟨w.heap.size, q, none⟩) (some ⟨ga, 0, none⟩) (N - q) (N - q) 2 ca (by simp [Act.eval, Act.put]) (by simp [Act.eval, Act.put]) w.heap.size q (bufL N l) 5 HR.out (([92, 92] : List UInt8).map byteV) hcs (fun _ => ⟨rfl, _, rfl, two_cells hT.a0 hT.a1⟩) (by rw [bufL_len (by rw [HL.out.2]; exact hqN)]; exact hr2) two_one w.heap.size w (bl_drew HB.out) (Nat.le_refl _) ?_; intro w4 hg4 hb4)
            have HB4 := hide hb4
            clear hb4
            go_wp2
            go_roundw
            case rel =>
              refine ⟨k + 1, q + 2, l ++ [92, 92], by omega, hr2, by go_num, by go_num, hide ⟨HLN2.out.symm, by rw [List.length_append, HL.out.2]; rfl⟩, hide ?_, HB4⟩
              have h4 := hg4.out
              have h5 := HL.out.2
              subst h5
              rw [bufL_splice (cs := [92, 92]) hr2] at h4
              exact h4
            case measure => simp [intOf]; omega
          · have k1 : (s[k].toNat : Int) = 34 := by rw [e1]; rfl
            have w1 := hT.c34
            have hr2 : q + 2 ≤ N := by
              have := HTOT.out
              rw [HN.out, ← HL.out.1, HL.out.2, e1] at this
              exact this
            have hln := HLN.out
            rw [← HL.out.1, show esc1 s[k] = [92, 34] from by rw [e1]; rfl] at hln
            have HLN2 := hide hln
            clear hln HLN HTOT e1 e2
            have hcs : (([92, 34] : List UInt8).map byteV).length = Nat.min 2 (N - q) := by rw [show Nat.min 2 (N - q) = 2 from Nat.min_eq_left (by omega)]; rfl
            have hnq : ¬ N = q := by omega
            go_wp2_with fail
            go_region_law (refine step_copy_splice rfl (.tmp 105) (.tmp 111) 44 44 rfl 5 Tryz.underlying44 HU.out (some ⟨w.heap.size, q, none⟩) (some ⟨gc, 0, none⟩) (N - q) (N - q) 2 cc (by simp [Act.eval, Act.put]) (by simp [Act.eval, Act.put]) w.heap.size q (bufL N l) 5 HR.out (([92, 34] : List UInt8).map byteV) hcs (fun _ => ⟨rfl, _, rfl, two_cells hT.b0 hT.b1⟩) (by rw [bufL_len (by rw [HL.out.2]; exact hqN)]; exact hr2) two_one w.heap.size w (bl_drew HB.out) (Nat.le_refl _) ?_; intro w4 hg4 hb4)
            have HB4 := hide hb4
            clear hb4
            go_wp2
            go_roundw
            case rel =>
              refine ⟨k + 1, q + 2, l ++ [92, 34], by omega, hr2, by go_num, by go_num, hide ⟨HLN2.out.symm, by rw [List.length_append, HL.out.2]; rfl⟩, hide ?_, HB4⟩
              have h4 := hg4.out
              have h5 := HL.out.2
              subst h5
              rw [bufL_splice (cs := [92, 34]) hr2] at h4
              exact h4
            case measure => simp [intOf]; omega
          · have hbd : (s[k].toNat : Int) < 256 := by omega
            have hr1 : q < N := by
              have := HTOT.out
              rw [HN.out, ← HL.out.1, HL.out.2, show esc1 s[k] = [s[k]] from by unfold esc1; rw [if_neg e1.1, if_neg e1.2]] at this
              exact this
            have hln := HLN.out
            rw [← HL.out.1, show esc1 s[k] = [s[k]] from by unfold esc1; rw [if_neg e1.1, if_neg e1.2]] at hln
            have HLN2 := hide hln
            clear hln HLN HTOT e1
            obtain ⟨cd, fz⟩ := buf_cell HR.out HL.out.2 hr1
            have HST := hide (buf_store (b := s[k]) HR.out HL.out.2 hr1)
            have HBS := hide (HB.out.setCell (show w.heap.size ≤ (⟨w.heap.size, q, none⟩ : Addr).block from Nat.le_refl _) (byteV s[k]))
            go_wp2
            go_roundw
            case rel => exact ⟨k + 1, q + 1, l ++ [s[k]], by omega, hr1, by go_num, by go_num, hide ⟨HLN2.out.symm, by rw [List.length_append, HL.out.2]; rfl⟩, HST, HBS⟩
            case measure => simp [intOf]; omega
        · obtain rfl : k = s.size := by omega
          have i1 : ¬ (s.size : Int) < (s.size : Int) := by omega
          have hl : l = escL s.data.toList := by rw [HL.out.1, List.take_of_length_le (by rw [hsz]; exact Nat.le_refl _)]
          have hqe : q = N := by rw [← HL.out.2, hl]; exact HN.out
          subst hqe hl
          have hcv := buf_back HR.out HN.out
          have HBB := HB
          clear HL HR HB
          go_wp2
          go_ret
          exact ⟨rfl, HBB.out⟩

end Go.Proofs.YtjaoiehjhnmahaaGreatDoor
