/-
  WALKS: the reference reads a word, an item.
-/
import Derived.Test.YtdncmjlakmkfiaaGreatDoorVxd
import Derived.Test.YtdncmjlakmkfiaaGreatDoorVxe
import Derived.Test.YtdncmjlakmkfiaaGreatDoorVxf
import Derived.Test.YtdncmjlakmkfiaaGreatDoorVxg
import Derived.Test.YtdncmjlakmkfiaaGreatDoorPvn
set_option linter.all false
namespace Go.Proofs.YtdncmjlakmkfiaaGreatDoor
open Go.RowKit

theorem takeWhile_whole {p : UInt8 → Bool} : ∀ l : List UInt8, (l.takeWhile p).length = l.length → l.takeWhile p = l ∧ l.dropWhile p = []
  | [], _ => ⟨rfl, rfl⟩
  | c :: l, h => by
    by_cases hc : p c = true
    · rw [List.takeWhile_cons_of_pos hc] at h ⊢
      rw [List.dropWhile_cons_of_pos hc]
      obtain ⟨h1, h2⟩ := takeWhile_whole l (by simpa using h)
      exact ⟨by rw [h1], h2⟩
    · rw [List.takeWhile_cons_of_neg hc] at h
      simp at h

theorem take_tw {p : UInt8 → Bool} (l : List UInt8) : l.take (l.takeWhile p).length = l.takeWhile p ∧ l.drop (l.takeWhile p).length = l.dropWhile p := by
  have e : l.takeWhile p ++ l.dropWhile p = l := List.takeWhile_append_dropWhile
  constructor
  · conv => lhs; rw [← e]
    rw [List.takeWhile_append_dropWhile]
    conv => lhs; arg 2; rw [← e]
    exact List.take_left
  · conv => lhs; arg 2; rw [← e]
    exact List.drop_left

theorem tw_le {p : UInt8 → Bool} (l : List UInt8) : (l.takeWhile p).length ≤ l.length := by
  have e : l.takeWhile p ++ l.dropWhile p = l := List.takeWhile_append_dropWhile
  have := congrArg List.length e
  rw [List.length_append] at this
  omega

theorem ext_take (s : ByteArray) (E : Nat) : (s.extract 0 E).data.toList = s.data.toList.take E := by
  rw [Lib.extract_data]
  simp

/-- A word that is an item. -/
theorem readItem_wordI (s : ByteArray) (w : World) (hs : s.size ≤ 400000) (hm : MaxTold w) (hq : Lib.hasPrefix s.data.toList [34] = false) (h2 : Lib.hasPrefix s.data.toList [91, 91] = false) :
    Calls Tryz.prog 17 #[.string s, .bool true] w (RfLeaf s (rWord s.data.toList) w) := by
  rcases indexAny_tw s.data.toList with ⟨h, hl⟩ | h
  · have := readItem_wordB s true s ByteArray.empty ⟨rfl, h, rfl, rfl⟩ w hs hm hq h2 (.inl rfl)
    obtain ⟨e1, e2⟩ := takeWhile_whole _ hl
    have e : wdO s ByteArray.empty = rWord s.data.toList := by
      unfold wdO rWord
      rw [e1, e2]
      rfl
    rwa [e] at this
  · have hle : (s.data.toList.takeWhile nsep).length ≤ s.size := by have := tw_le (p := nsep) s.data.toList; rwa [size_list] at this
    have := readItem_wordC s true _ _ ⟨rfl, _, h, hle, rfl, rfl⟩ w hs hm hq h2 (.inl rfl)
    have e : wdO (s.extract 0 (s.data.toList.takeWhile nsep).length) (s.extract (s.data.toList.takeWhile nsep).length s.size) = rWord s.data.toList := by
      unfold wdO rWord
      rw [rst_ext, ext_take, (take_tw _).1]
      unfold rst
      rw [(take_tw _).2]
      rfl
    rwa [e] at this

/-- A word that is all. -/
theorem readItem_wordT (s : ByteArray) (w : World) (hs : s.size ≤ 400000) (hm : MaxTold w) (hq : Lib.hasPrefix s.data.toList [34] = false) (h1 : Lib.hasPrefix s.data.toList [91] = false) :
    Calls Tryz.prog 17 #[.string s, .bool false] w (RfLeaf s (rTop s.data.toList) w) := by
  have h2 : Lib.hasPrefix s.data.toList [91, 91] = false := by
    cases h : Lib.hasPrefix s.data.toList [91, 91] with
    | false => rfl
    | true =>
      obtain ⟨t, e⟩ := hp_cons h
      rw [e] at h1
      revert h1
      simp [Lib.hasPrefix, List.isPrefixOf]
  have := readItem_wordA s false s ByteArray.empty ⟨rfl, rfl, rfl⟩ w hs hm hq h2 (.inr h1)
  have e : wdO s ByteArray.empty = rTop s.data.toList := rfl
  rwa [e] at this

/-- An item. -/
theorem readItem_item (s : ByteArray) (w : World) (hs : s.size ≤ 400000) (hm : MaxTold w) :
    Calls Tryz.prog 17 #[.string s, .bool true] w (RfLeaf s (rItem s.data.toList) w) := by
  unfold rItem
  cases hq : Lib.hasPrefix s.data.toList [34] with
  | true => exact readItem_quote s true w hs hq
  | false =>
    cases h2 : Lib.hasPrefix s.data.toList [91, 91] with
    | true => exact readItem_link s true w hs hm hq h2 (.inl rfl)
    | false => exact readItem_wordI s w hs hm hq h2

end Go.Proofs.YtdncmjlakmkfiaaGreatDoor
/-
  WALK: the reference reads a list.
-/
namespace Go.Proofs.YtdncmjlakmkfiaaGreatDoor
open Go.RowKit
attribute [local go_sem high] run_max_i

/-- What the reference's reading of any value hands out. -/
def RfVal (s : ByteArray) (O : Got) (w : World) (e : Ending) (w' : World) : Prop :=
  Below w.heap.size w w' ∧ ∃ (x : V) (A : Option Addr) (c : Nat) (rest : ByteArray) (code : Int), e = .returned (.tuple #[x.arg A c, .string rest, .int .i64 code]) ∧ LIn w' (fun b => w.heap.size ≤ b ∧ b < w'.heap.size) A x.l ∧ x.l.length ≤ 400001 ∧ (∀ y ∈ x.l, y.l = []) ∧ rest.size ≤ s.size ∧ RfIs O x rest code

theorem RfLeaf.val {s : ByteArray} {O : Got} {w : World} {e : Ending} {w' : World} (h : RfLeaf s O w e w') : RfVal s O w e w' := by
  obtain ⟨hb, x, rest, code, hx, he, hr, ho⟩ := h
  refine ⟨hb, x, none, 0, rest, code, ?_, ?_, ?_, ?_, hr, ho⟩
  · rw [he, V.flat_arg hx]
  · rw [hx]; exact LIn.nil
  · rw [hx]; simp
  · rw [hx]; intro y hy; cases hy

/-- The world of readList: a value whose items are made. -/
structure LR (w W : World) (xs : List V) (A : Option Addr) (c : Nat) : Prop where
  blk : Blk W w.heap.size 24 #[.int .i64 7, .int .i64 0, .int .i64 0, .string ⟨#[]⟩, .slice A xs.length c]
  own : OwnK 5 24 W (w.heap.size + 1) (.slice A xs.length c) xs.length (flat0 xs)
  bel : Below w.heap.size w W
  flat : ∀ y ∈ xs, y.l = []
section
variable {w W W' : World} {xs : List V} {A : Option Addr} {c : Nat}

theorem LR.start : LR w (w.alloc (.cells #[.int .i64 7, .int .i64 0, .int .i64 0, .string ⟨#[]⟩, .slice none 0 0] 24)) [] none 0 :=
  ⟨Blk.new w 24 _, OwnK.empty, bl_alloc (Below.refl _ _) _, fun y hy => by cases hy⟩

theorem LR.below (h : LR w W xs A c) (hb : Below W.heap.size W W') : LR w W' xs A c :=
  ⟨h.blk.below hb h.blk.lt, ownK_below h.own hb, h.bel.trans (hb.mono (Nat.le_of_lt h.blk.lt)), h.flat⟩

theorem LR.cells (h : LR w W xs A c) : (W.cell? ⟨w.heap.size, 0, none⟩ = some (.int .i64 7) ∧ W.cell? ⟨w.heap.size, 1, none⟩ = some (.int .i64 0) ∧ W.cell? ⟨w.heap.size, 2, none⟩ = some (.int .i64 0) ∧ W.cell? ⟨w.heap.size, 3, none⟩ = some (.string ⟨#[]⟩) ∧ W.cell? ⟨w.heap.size, 4, none⟩ = some (.slice A xs.length c) ∧
    W.frozen? ⟨w.heap.size, 0, none⟩ = false ∧ W.frozen? ⟨w.heap.size, 1, none⟩ = false ∧ W.frozen? ⟨w.heap.size, 2, none⟩ = false ∧ W.frozen? ⟨w.heap.size, 3, none⟩ = false ∧ W.frozen? ⟨w.heap.size, 4, none⟩ = false ∧ w.heap.size < W.heap.size) :=
  ⟨h.blk.cell 0, h.blk.cell 1, h.blk.cell 2, h.blk.cell 3, h.blk.cell 4, h.blk.frozen 0, h.blk.frozen 1, h.blk.frozen 2, h.blk.frozen 3, h.blk.frozen 4, h.blk.lt⟩

theorem LR.app {W1 : World} {x : V} {A' : Option Addr} {c' : Nat} (h : LR w W xs A c) (hx : x.l = []) (hb : Below (w.heap.size + 1) W W1) (ho : OwnK 5 24 W1 (w.heap.size + 1) (.slice A' (xs.length + 1) c') (xs.length + 1) (flat0 xs ++ [.int .i64 x.k, .int .i64 x.i, .int .i64 x.t, .string x.s, .slice none 0 0])) :
    LR w (W1.setCell ⟨w.heap.size, 4, none⟩ (.slice A' (xs.length + 1) c')) (xs ++ [x]) A' c' := by
  have hl : (xs ++ [x]).length = xs.length + 1 := by simp
  refine ⟨?_, ?_, (h.bel.trans (hb.mono (Nat.le_succ _))).setCell (p := ⟨w.heap.size, 4, none⟩) (Nat.le_refl _) _, fun y hy => ?_⟩
  · rw [hl]
    exact (h.blk.below hb (by omega)).set_ 4 _
  · rw [hl, flat0_snoc xs x hx]
    exact ownK_set ho (by simp only; omega) _
  · rcases List.mem_append.1 hy with hy | hy
    · exact h.flat y hy
    · rw [List.mem_singleton] at hy; rw [hy]; exact hx

theorem five_at {v0 v1 v2 v3 v4 : Value} (W : World) (g : Nat) : Below g W (((((W.setCell ⟨g, 0, none⟩ v0).setCell ⟨g, 1, none⟩ v1).setCell ⟨g, 2, none⟩ v2).setCell ⟨g, 3, none⟩ v3).setCell ⟨g, 4, none⟩ v4) :=
  (((((Below.refl g W).setCell (p := ⟨g, 0, none⟩) (Nat.le_refl g) v0).setCell (p := ⟨g, 1, none⟩) (Nat.le_refl g) v1).setCell (p := ⟨g, 2, none⟩) (Nat.le_refl g) v2).setCell (p := ⟨g, 3, none⟩) (Nat.le_refl g) v3).setCell (p := ⟨g, 4, none⟩) (Nat.le_refl g) v4

/-- Nothing is handed out. -/
theorem LR.none_ {s : ByteArray} {O : Got} (h : LR w W xs A c) (hO : O = none) :
    RfVal s O w (.returned (.tuple #[.agg #[.int .i64 0, .int .i64 0, .int .i64 0, .string ⟨#[]⟩, .slice none 0 0], .string ⟨#[]⟩, .int .i64 8])) (((((W.setCell ⟨w.heap.size, 0, none⟩ (.int .i64 0)).setCell ⟨w.heap.size, 1, none⟩ (.int .i64 0)).setCell ⟨w.heap.size, 2, none⟩ (.int .i64 0)).setCell ⟨w.heap.size, 3, none⟩ (.string ⟨#[]⟩)).setCell ⟨w.heap.size, 4, none⟩ (.slice none 0 0)) :=
  ⟨h.bel.trans (five_at W _), vN, none, 0, ⟨#[]⟩, 8, rfl, LIn.nil, Nat.zero_le _, (fun y hy => by cases hy), Nat.zero_le _, .inl ⟨hO, rfl⟩⟩

/-- The list is handed out. -/
theorem LR.fin {s rest : ByteArray} {O : Got} {f : Bool} (h : LR w W xs A c) (hlen : xs.length ≤ 400001) (hr : rest.size ≤ s.size) (hO : O = some (vList xs, rest.data.toList, f)) :
    RfVal s O w (.returned (.tuple #[.agg #[.int .i64 7, .int .i64 0, .int .i64 0, .string ⟨#[]⟩, .slice A xs.length c], .string rest, .int .i64 (if f = true then 2 else 0)])) (((((W.setCell ⟨w.heap.size, 0, none⟩ (.int .i64 7)).setCell ⟨w.heap.size, 1, none⟩ (.int .i64 0)).setCell ⟨w.heap.size, 2, none⟩ (.int .i64 0)).setCell ⟨w.heap.size, 3, none⟩ (.string ⟨#[]⟩)).setCell ⟨w.heap.size, 4, none⟩ (.slice A xs.length c)) := by
  have hb := h.bel.trans (five_at (v0 := .int .i64 7) (v1 := .int .i64 0) (v2 := .int .i64 0) (v3 := .string ⟨#[]⟩) (v4 := .slice A xs.length c) W _)
  have ho := ownK_set (ownK_set (ownK_set (ownK_set (ownK_set h.own (p := ⟨w.heap.size, 0, none⟩) (by simp only; omega) (.int .i64 7)) (p := ⟨w.heap.size, 1, none⟩) (by simp only; omega) (.int .i64 0)) (p := ⟨w.heap.size, 2, none⟩) (by simp only; omega) (.int .i64 0)) (p := ⟨w.heap.size, 3, none⟩) (by simp only; omega) (.string ⟨#[]⟩)) (p := ⟨w.heap.size, 4, none⟩) (by simp only; omega) (.slice A xs.length c)
  generalize (((((W.setCell ⟨w.heap.size, 0, none⟩ (.int .i64 7)).setCell ⟨w.heap.size, 1, none⟩ (.int .i64 0)).setCell ⟨w.heap.size, 2, none⟩ (.int .i64 0)).setCell ⟨w.heap.size, 3, none⟩ (.string ⟨#[]⟩)).setCell ⟨w.heap.size, 4, none⟩ (.slice A xs.length c)) = WZ at *
  obtain ⟨-, -, -, -, -, -, hlin⟩ := ho.lin (P := fun b => w.heap.size ≤ b ∧ b < WZ.heap.size) (fun b h1 h2 => ⟨by omega, h2⟩) (fun y hy => by
    obtain ⟨x, hx, rfl⟩ := List.mem_map.1 hy
    show LIn WZ _ none x.l
    rw [h.flat x hx]
    exact LIn.nil)
  rw [List.map_map, show ((fun q : CVal => q.x) ∘ mk0) = id from rfl, List.map_id] at hlin
  exact ⟨hb, vList xs, A, c, rest, _, rfl, hlin, hlen, h.flat, hr, .inr ⟨f, hO, rfl⟩⟩
end

theorem RfVal.drew {s : ByteArray} {O : Got} {w W : World} {e : Ending} (h : RfVal s O w e W) : RfVal s O w e W.drew := by
  obtain ⟨hb, x, A, c, rest, code, he, hl, h⟩ := h
  exact ⟨bl_drew hb, x, A, c, rest, code, he, hl.frame (fun _ _ => rfl), h⟩

def szOf : Value → Nat
  | .string s => s.size
  | _ => 0

theorem ext_size (s : ByteArray) (k : Nat) : (s.extract k s.size).size = s.size - k := by rw [ByteArray.size_extract]; omega

theorem max_two (a b : Bool) : max (if a = true then (2 : Int) else 0) (if b = true then 2 else 0) = if (a || b) = true then 2 else 0 := by cases a <;> cases b <;> rfl

theorem rst_of_ext (s : ByteArray) (k : Nat) : (s.extract k s.size).data.toList = s.data.toList.drop k := rst_ext s k

set_option maxHeartbeats 3200000 in
set_option maxRecDepth 100000 in
theorem readList_any (s : ByteArray) (w : World) (hs : s.size ≤ 400000) (h1 : 1 ≤ s.size) (hm : MaxTold w) :
    Calls Tryz.prog 61 #[.string s] w (RfVal s (pList rItem (s.data.toList.drop 1)) w) := by
  obtain ⟨iP, hiP, hzP0, hzP1, hzP2⟩ := info_parts info_valL
  have HIP := hide (And.intro hiP (And.intro hzP0 (And.intro hzP1 hzP2)))
  clear hiP hzP0 hzP1 hzP2
  have HM := hide hm
  have HL := hide (LR.start (w := w))
  have i1 : (1 : Int) ≤ (s.size : Int) := by omega
  have hsz : (s.extract 1 s.size).size ≤ s.size := by rw [ext_size]; omega
  generalize hOO : pList rItem (s.data.toList.drop 1) = O
  rw [← rst_of_ext] at hOO
  have HOO := hide hOO
  clear hm hOO h1
  go_enter Tryz.func61, Tryz.ntmps61
  go_upto_region 3 with fail
  generalize s.extract 1 s.size = s1 at *
  have HZ := hide hsz
  cases he : Lib.hasPrefix s1.data.toList [93] with
  | true =>
    have HA := hide (fun W => hpS_any s1 ⟨#[93]⟩ true W he)
    have hl1 : 1 ≤ s1.size := by
      obtain ⟨t, ht⟩ := hp_cons he
      have := congrArg List.length ht
      rw [size_list, List.length_cons] at this
      omega
    have i2 : (1 : Int) ≤ (s1.size : Int) := by omega
    have HO2 := hide (show O = some (vList [], (s1.extract 1 s1.size).data.toList, false) by rw [← HOO.out]; unfold pList; rw [if_pos he, rst_of_ext])
    clear he hl1 hsz
    go_wp2_with (first | (go_at_call_of 50 (Value.string ⟨#[93]⟩); (refine (HA.out _).mono ?_); rintro e w' ⟨rfl, hw⟩; subst hw))
    go_region
    all_goals
      go_wp2
      refine bodyPost_ret (res_cell3 (P := Tryz.prog) (fn := Tryz.f61) (p := 2) (u := 3) (v := 4) rfl _ _ _ 24 #[.int .i64 7, .int .i64 0, .int .i64 0, .string ⟨#[]⟩, .slice none 0 0] (0, 0) _ rfl HL.out.blk.drew Tryz.underlying24 rfl (by kernel_rfl)) rfl ?_
      exact ⟨bl_drew HL.out.bel, vList [], none, 0, _, 0, rfl, LIn.nil, Nat.zero_le _, (fun y hy => by cases hy), (show (s1.extract 1 s1.size).size ≤ s.size by rw [ext_size]; have := HZ.out; omega), .inr ⟨false, HO2.out, rfl⟩⟩
  | false =>
    have HA := hide (fun W => hpS_any s1 ⟨#[93]⟩ false W he)
    have HG0 := hide (show O = pRow rItem (s1.size + 1) [] false s1.data.toList by rw [← HOO.out]; unfold pList; rw [he, size_list]; rfl)
    clear he hsz
    go_wp2_with (first | (go_at_call_of 50 (Value.string ⟨#[93]⟩); (refine (HA.out _).mono ?_); rintro e w' ⟨rfl, hw⟩; subst hw))
    go_loopw [0, 5] (fun v0 v5 wr => ∃ (sc : ByteArray) (fl : Bool) (xs : List V) (A : Option Addr) (c n : Nat), v0 = .string sc ∧ v5 = .int .i64 (if fl = true then 2 else 0) ∧ Hid (LR w wr xs A c) ∧ Hid (O = pRow rItem n xs fl sc.data.toList ∧ sc.size < n) ∧ Hid (xs.length + sc.size ≤ s.size)) (fun v0 _ _ => szOf v0)
    case atStart => exact ⟨s1, false, [], none, 0, s1.size + 1, rfl, rfl, HL, hide ⟨HG0.out, Nat.lt_succ_self _⟩, hide (by have := HZ.out; simp; omega)⟩
    case round =>
      obtain ⟨sc, fl, xs, A, c, n, rfl, rfl, HLn, HG, HQ⟩ := hrel
      clear HL HA HG0 HOO
      have HL := HLn
      clear HLn
      obtain ⟨d0, d1, d2, d3, d4, y0, y1, y2, y3, y4, hg⟩ := HL.out.cells
      cases n with
      | zero => exact absurd HG.out.2 (by omega)
      | succ n =>
        have hsc : sc.size ≤ 400000 := by have := HQ.out; omega
        have HIT := hide (fun W hm => readItem_item sc W hsc hm)
        have HBIG := hide (show (xs.length + 1) * iP.bytes ≤ 140737488355328 ∧ xs.length + 1 ≤ 140737488355328 by have := HIP.out.2.2.2; rw [this]; have := HQ.out; omega)
        clear hsc
        generalize hF : (if fl = true then (2 : Int) else 0) = F at *
        have HFL := hide hF
        clear hF
        go_upto_region 7 with (go_at_call 17; (refine (HIT.out _ (maxTold_below HM.out HL.out.bel)).mono ?_); rintro e W1 ⟨hbl, x, rest, cd, hx, rfl, hr, hri⟩; have HX := hide (And.intro hx (And.intro hr hri)); have HL1 := hide (HL.out.below hbl); clear d0 d1 d2 d3 d4 y0 y1 y2 y3 y4 hg; clear HL hx hr hri hbl; have HL := HL1; clear HL1; obtain ⟨d0, d1, d2, d3, d4, y0, y1, y2, y3, y4, hg⟩ := HL.out.cells; (try simp only [V.flat]))
        have HL1 := hide (HL.out.below (bl_alloc (Below.refl _ _) (.cells #[.int .i64 x.k, .int .i64 x.i, .int .i64 x.t, .string x.s, .slice none 0 0] 24)))
        have HLO := HL
        clear d0 d1 d2 d3 d4 y0 y1 y2 y3 y4 hg
        clear HL
        have HL := HL1
        clear HL1
        obtain ⟨d0, d1, d2, d3, d4, y0, y1, y2, y3, y4, hg⟩ := HL.out.cells
        rcases HX.out.2.2 with ⟨hO, rfl⟩ | ⟨f2, hO, hcd⟩
        · have HO2 := hide (show O = none by rw [HG.out.1, pRow_succ, hO])
          clear hO
          go_wp2
          (try simp only [Exit.inBlock, Exit.then])
          refine bodyPost_ret (res_cell3 (P := Tryz.prog) (fn := Tryz.f61) (p := 2) (u := 3) (v := 4) rfl _ _ _ 24 #[.int .i64 0, .int .i64 0, .int .i64 0, .string ⟨#[]⟩, .slice none 0 0] (0, 0) _ rfl (five_set HL.out.blk) Tryz.underlying24 rfl (by kernel_rfl)) rfl ?_
          exact HL.out.none_ HO2.out
        · have hc8 : (cd == 8) = false := by rw [hcd]; cases f2 <;> rfl
          have HMX := hide (show max F cd = if (fl || f2) = true then 2 else 0 by rw [← HFL.out, hcd]; exact max_two fl f2)
          have HST := hide (show O = if Lib.hasPrefix rest.data.toList [93] = true then some (vList (xs ++ [x]), rest.data.toList.drop 1, fl || f2) else if Lib.hasPrefix rest.data.toList [44, 32] = true then pRow rItem n (xs ++ [x]) (fl || f2) (rest.data.toList.drop 2) else none by rw [HG.out.1, pRow_succ, hO])
          have HRS := hide HX.out.2.1
          have HXL := hide HX.out.1
          have hbx : (W1.alloc (.cells #[.int .i64 x.k, .int .i64 x.i, .int .i64 x.t, .string x.s, .slice none 0 0] 24)).heap.size = W1.heap.size + 1 := World.size_alloc _ _
          clear hO hcd
          have HLEN := hide (show (xs ++ [x]).length = xs.length + 1 from by simp)
          go_upto_region 11 with (at_builtin; refine wpList_append_b rfl (.tmp 31) (.tmp 33) rfl rfl Tryz.underlying22 HIP.out.1 HIP.out.2.1 HIP.out.2.2.1 (by decide) rfl (by have := HIP.out.2.2.2; omega) (w.heap.size + 1) xs.length (.slice A xs.length c) (flat0 xs) [.int .i64 x.k, .int .i64 x.i, .int .i64 x.t, .string x.s, .slice none 0 0] _ rfl (by repeat (first | with_reducible exact HL.out.own | with_reducible refine ownK_alloc ?_ _ | with_reducible refine ownK_plus ?_ _ _ | with_reducible refine ownK_drew ?_ | with_reducible refine ownK_drewN ?_ _)) rfl (by intro u hu; simp only [List.mem_cons, List.not_mem_nil, or_false] at hu; rcases hu with rfl | rfl | rfl | rfl | rfl <;> rfl) rfl (newN_cells (cs := [.int .i64 x.k, .int .i64 x.i, .int .i64 x.t, .string x.s, .slice none 0 0]) (by simp only [World.size_alloc, plus_size, World.drew])) HBIG.out (by simp only [World.size_alloc, plus_size, World.drew]; omega) ?_; intro v' w1 hown1 hgr1 hfr1; obtain ⟨A3, c3, rfl, _⟩ := ownK_form hown1; have hb1 : Below (w.heap.size + 1) (W1.alloc (.cells #[.int .i64 x.k, .int .i64 x.i, .int .i64 x.t, .string x.s, .slice none 0 0] 24)) w1 := (Below.mono (by repeat (first | exact Below.refl _ _ | with_reducible refine bl_plus ?_ | with_reducible refine bl_alloc ?_ _ | with_reducible refine bl_drew ?_ | with_reducible refine bl_drewN ?_ _)) hg).grown hgr1 (by simp only [World.size_alloc, plus_size, World.drew]; omega) (fun k hk => (HL.out.own.lt k hk).1); have HL2 := hide (HL.out.app HX.out.1 hb1 hown1); have kc := HL.out.blk.below hb1 (by omega); have m4 := kc.cell 4; simp only [List.getElem?_toArray, List.getElem?_cons_succ, List.getElem?_cons_zero] at m4; have mf := kc.frozen 4; have ml := kc.lt; clear hown1 hgr1 hfr1 hb1 kc)
          clear d0 d1 d2 d3 d4 y0 y1 y2 y3 y4 hg
          clear HL HLO HIT HBIG m4 mf ml
          have HL := HL2
          clear HL2
          generalize w1.setCell ⟨w.heap.size, 4, none⟩ (.slice A3 (xs.length + 1) c3) = W3 at *
          obtain ⟨d0, d1, d2, d3, d4, y0, y1, y2, y3, y4, hg⟩ := HL.out.cells
          generalize hys : xs ++ [x] = ys at *
          have HYS := hide hys
          clear hys
          generalize max F cd = M at *
          have hl9 : ys.length ≤ 400001 := by have := HLEN.out; have := HQ.out; have := HG.out.2; omega
          have HLN := hide hl9
          clear hl9
          have hst := HST.out
          cases he2 : Lib.hasPrefix rest.data.toList [93] with
          | true =>
            rw [he2, if_pos rfl, ← rst_of_ext] at hst
            have HO := hide hst
            have HA2 := hide (fun W => hpS_any rest ⟨#[93]⟩ true W he2)
            have hl1 : 1 ≤ rest.size := by
              obtain ⟨t, ht⟩ := hp_cons he2
              have := congrArg List.length ht
              rw [size_list, List.length_cons] at this
              omega
            have i2 : (1 : Int) ≤ (rest.size : Int) := by omega
            clear he2 hl1 hst HST
            go_wp2_with (first | (go_at_call_of 50 (Value.string ⟨#[93]⟩); (refine (HA2.out _).mono ?_); rintro e w' ⟨rfl, hw⟩; subst hw))
            go_region
            all_goals
              go_wp2
              (try simp only [Exit.inBlock, Exit.then])
              refine bodyPost_ret (res_cell3 (P := Tryz.prog) (fn := Tryz.f61) (p := 2) (u := 3) (v := 4) rfl _ _ _ 24 #[.int .i64 7, .int .i64 0, .int .i64 0, .string ⟨#[]⟩, .slice A3 ys.length c3] (0, 0) _ rfl (five_set HL.out.blk) Tryz.underlying24 rfl (by kernel_rfl)) rfl ?_
              rw [HMX.out]
              exact (HL.out.fin (s := s) HLN.out (by rw [ext_size]; have := HRS.out; have := HQ.out; omega) HO.out).drew
          | false =>
            rw [he2, if_neg (by decide)] at hst
            have HA2 := hide (fun W => hpS_any rest ⟨#[93]⟩ false W he2)
            clear he2
            cases hc2 : Lib.hasPrefix rest.data.toList [44, 32] with
            | true =>
              rw [hc2, if_pos rfl, ← rst_of_ext] at hst
              have HA3 := hide (fun W => hpS_any rest ⟨#[44, 32]⟩ true W hc2)
              have hl1 : 2 ≤ rest.size := by
                obtain ⟨t, ht⟩ := hp_iff.1 hc2
                have := congrArg List.length ht
                rw [size_list, List.length_append] at this
                simp only [List.length_cons, List.length_nil] at this
                omega
              have i2 : (2 : Int) ≤ (rest.size : Int) := by omega
              have HO := hide hst
              have hz2 := ext_size rest 2
              generalize hre : rest.extract 2 rest.size = re at *
              have HSZ := hide (show re.size < n ∧ ys.length + re.size ≤ s.size ∧ re.size < sc.size by have := HLEN.out; have := HRS.out; have := HQ.out; have := HG.out.2; omega)
              have HRE := hide hre
              clear hre hc2 hst HST hl1 hz2
              go_wp2_with (first | (go_at_call_of 50 (Value.string ⟨#[93]⟩); (refine (HA2.out _).mono ?_); rintro e w' ⟨rfl, hw⟩; subst hw) | (go_at_call_of 50 (Value.string ⟨#[44, 32]⟩); (refine (HA3.out _).mono ?_); rintro e w' ⟨rfl, hw⟩; subst hw))
              go_roundw
              case rel => exact ⟨re, fl || f2, ys, A3, c3, n, by rw [HRE.out], by rw [← HMX.out], HL, hide ⟨HO.out, HSZ.out.1⟩, hide HSZ.out.2.1⟩
              case measure =>
                have h9 : (rest.extract 2 rest.size).size < sc.size := by rw [HRE.out]; exact HSZ.out.2.2
                simpa [szOf] using h9
            | false =>
              rw [hc2, if_neg (by decide)] at hst
              have HO := hide hst
              have HA3 := hide (fun W => hpS_any rest ⟨#[44, 32]⟩ false W hc2)
              clear hc2 hst HST
              go_wp2_with (first | (go_at_call_of 50 (Value.string ⟨#[93]⟩); (refine (HA2.out _).mono ?_); rintro e w' ⟨rfl, hw⟩; subst hw) | (go_at_call_of 50 (Value.string ⟨#[44, 32]⟩); (refine (HA3.out _).mono ?_); rintro e w' ⟨rfl, hw⟩; subst hw))
              (try simp only [Exit.inBlock, Exit.then])
              refine bodyPost_ret (res_cell3 (P := Tryz.prog) (fn := Tryz.f61) (p := 2) (u := 3) (v := 4) rfl _ _ _ 24 #[.int .i64 0, .int .i64 0, .int .i64 0, .string ⟨#[]⟩, .slice none 0 0] (0, 0) _ rfl (five_set HL.out.blk) Tryz.underlying24 rfl (by kernel_rfl)) rfl ?_
              exact HL.out.none_ HO.out


end Go.Proofs.YtdncmjlakmkfiaaGreatDoor
/-
  WALKS: the reference reads any value; ReadOf.
-/
namespace Go.Proofs.YtdncmjlakmkfiaaGreatDoor
open Go.RowKit
attribute [local go_sem high] lit_none

set_option maxHeartbeats 3200000 in
set_option maxRecDepth 100000 in
theorem readItem_list (s : ByteArray) (w : World) (hs : s.size ≤ 400000) (hm : MaxTold w) (hq : Lib.hasPrefix s.data.toList [34] = false) (h2 : (Lib.hasPrefix s.data.toList [91, 91] && !Lib.hasPrefix s.data.toList [91, 91, 91]) = false) (h1 : Lib.hasPrefix s.data.toList [91] = true) :
    Calls Tryz.prog 17 #[.string s, .bool false] w (RfVal s (pList rItem (s.data.toList.drop 1)) w) := by
  have HA := hide (fun W => hpS_any s ⟨#[34]⟩ false W hq)
  have HC := hide (fun W => hpS_any s ⟨#[91]⟩ true W h1)
  have hl1 : 1 ≤ s.size := by
    obtain ⟨t, ht⟩ := hp_cons h1
    have := congrArg List.length ht
    rw [size_list, List.length_cons] at this
    omega
  have HRL := hide (fun W hm => readList_any s W hs hl1 hm)
  have HS := hide (Sr.start (w := w))
  obtain ⟨d0, d1, d2, d3, d4, y0, y1, y2, y3, y4, hg⟩ := HS.out.cells
  have HM := hide hm
  generalize pList rItem (s.data.toList.drop 1) = O at *
  cases hb2 : Lib.hasPrefix s.data.toList [91, 91] with
  | false =>
    have HB := hide (fun W => hpS_any s ⟨#[91, 91]⟩ false W hb2)
    clear hm hq h2 h1 hl1 hb2
    go_enter Tryz.func17, Tryz.ntmps17
    go_wp2_with (first | (go_at_call_of 50 (Value.string ⟨#[34]⟩); (refine (HA.out _).mono ?_); rintro e w' ⟨rfl, hw⟩; subst hw) | (go_at_call_of 50 (Value.string ⟨#[91, 91]⟩); (refine (HB.out _).mono ?_); rintro e w' ⟨rfl, hw⟩; subst hw) | (go_at_call_of 50 (Value.string ⟨#[91]⟩); (refine (HC.out _).mono ?_); rintro e w' ⟨rfl, hw⟩; subst hw) | (go_at_call 61; (refine (HRL.out _ (maxTold_below HM.out HS.out.bel)).mono ?_); rintro e W1 ⟨hbl, x, A, c, rest, cd, rfl, hlin, hlen, hfl, hr, hri⟩; have HX := hide (And.intro hlin (And.intro hlen (And.intro hfl (And.intro hr hri)))); have HG0 := hide hg; have HS1 := hide (HS.out.below hbl); clear d0 d1 d2 d3 d4 y0 y1 y2 y3 y4 hg; clear HS hlin hlen hfl hr hri hbl; have HS := HS1; clear HS1; obtain ⟨d0, d1, d2, d3, d4, y0, y1, y2, y3, y4, hg⟩ := HS.out.cells; (try simp only [V.arg])))
    refine bodyPost_ret (res_cell3 (P := Tryz.prog) (fn := Tryz.f17) (p := 4) (u := 5) (v := 6) rfl _ _ _ 24 #[.int .i64 x.k, .int .i64 x.i, .int .i64 x.t, .string x.s, .slice A x.l.length c] (0, 0) _ rfl (HS.out.end _ _ _ _ _).1 Tryz.underlying24 rfl (by kernel_rfl)) rfl ?_
    refine ⟨(HS.out.end _ _ _ _ _).2, x, A, c, rest, cd, rfl, (HX.out.1.frame fun b hb => five_far (by have h9 := hb.1; have h8 := HG0.out; omega)).mono fun b hb => ⟨by have h9 := hb.1; have h8 := HG0.out; omega, ?_⟩, HX.out.2.1, HX.out.2.2.1, HX.out.2.2.2.1, HX.out.2.2.2.2⟩
    rw [five_size]
    exact hb.2
  | true =>
    have hb3 : Lib.hasPrefix s.data.toList [91, 91, 91] = true := by
      rw [hb2] at h2
      simpa using h2
    have HB := hide (fun W => hpS_any s ⟨#[91, 91]⟩ true W hb2)
    have HD := hide (fun W => hpS_any s ⟨#[91, 91, 91]⟩ true W hb3)
    clear hm hq h2 h1 hl1 hb2 hb3
    go_enter Tryz.func17, Tryz.ntmps17
    go_wp2_with (first | (go_at_call_of 50 (Value.string ⟨#[34]⟩); (refine (HA.out _).mono ?_); rintro e w' ⟨rfl, hw⟩; subst hw) | (go_at_call_of 50 (Value.string ⟨#[91, 91]⟩); (refine (HB.out _).mono ?_); rintro e w' ⟨rfl, hw⟩; subst hw) | (go_at_call_of 50 (Value.string ⟨#[91, 91, 91]⟩); (refine (HD.out _).mono ?_); rintro e w' ⟨rfl, hw⟩; subst hw) | (go_at_call_of 50 (Value.string ⟨#[91]⟩); (refine (HC.out _).mono ?_); rintro e w' ⟨rfl, hw⟩; subst hw) | (go_at_call 61; (refine (HRL.out _ (maxTold_below HM.out HS.out.bel)).mono ?_); rintro e W1 ⟨hbl, x, A, c, rest, cd, rfl, hlin, hlen, hfl, hr, hri⟩; have HX := hide (And.intro hlin (And.intro hlen (And.intro hfl (And.intro hr hri)))); have HG0 := hide hg; have HS1 := hide (HS.out.below hbl); clear d0 d1 d2 d3 d4 y0 y1 y2 y3 y4 hg; clear HS hlin hlen hfl hr hri hbl; have HS := HS1; clear HS1; obtain ⟨d0, d1, d2, d3, d4, y0, y1, y2, y3, y4, hg⟩ := HS.out.cells; (try simp only [V.arg])))
    refine bodyPost_ret (res_cell3 (P := Tryz.prog) (fn := Tryz.f17) (p := 4) (u := 5) (v := 6) rfl _ _ _ 24 #[.int .i64 x.k, .int .i64 x.i, .int .i64 x.t, .string x.s, .slice A x.l.length c] (0, 0) _ rfl (HS.out.end _ _ _ _ _).1 Tryz.underlying24 rfl (by kernel_rfl)) rfl ?_
    refine ⟨(HS.out.end _ _ _ _ _).2, x, A, c, rest, cd, rfl, (HX.out.1.frame fun b hb => five_far (by have h9 := hb.1; have h8 := HG0.out; omega)).mono fun b hb => ⟨by have h9 := hb.1; have h8 := HG0.out; omega, ?_⟩, HX.out.2.1, HX.out.2.2.1, HX.out.2.2.2.1, HX.out.2.2.2.2⟩
    rw [five_size]
    exact hb.2

/-- Any value. -/
theorem readItem_top (s : ByteArray) (w : World) (hs : s.size ≤ 400000) (hm : MaxTold w) :
    Calls Tryz.prog 17 #[.string s, .bool false] w (RfVal s (rVal s.data.toList) w) := by
  unfold rVal
  cases hq : Lib.hasPrefix s.data.toList [34] with
  | true => exact (readItem_quote s false w hs hq).mono fun _ _ h => h.val
  | false =>
    cases h2 : (Lib.hasPrefix s.data.toList [91, 91] && !Lib.hasPrefix s.data.toList [91, 91, 91]) with
    | true =>
      rw [Bool.and_eq_true, Bool.not_eq_true'] at h2
      exact (readItem_link s false w hs hm hq h2.1 (.inr h2.2)).mono fun _ _ h => h.val
    | false =>
      cases h1 : Lib.hasPrefix s.data.toList [91] with
      | true => exact readItem_list s w hs hm hq h2 h1
      | false => exact (readItem_wordT s w hs hm hq h1).mono fun _ _ h => h.val

set_option maxHeartbeats 3200000 in
set_option maxRecDepth 100000 in
theorem readOf_any (s : ByteArray) (w : World) (hm : MaxTold w) :
    Calls Tryz.prog 7 #[.string s] w (ReadOut w (readV s)) := by
  have HS := hide (Sr.start (w := w))
  obtain ⟨d0, d1, d2, d3, d4, y0, y1, y2, y3, y4, hg⟩ := HS.out.cells
  generalize hQ : readV s = Q
  unfold readV at hQ
  by_cases hs : 400000 < s.size
  · rw [if_pos hs] at hQ
    subst hQ
    go_enter Tryz.func7, Tryz.ntmps7
    go_wp2
    go_returns
    exact ⟨none, 0, rfl, LIn.nil.at_ (P := fun _ => False) (fun b hb => hb.elim), (by repeat (first | exact Below.refl _ _ | with_reducible refine bl_plus ?_ | with_reducible refine bl_alloc ?_ _ | with_reducible refine bl_drew ?_ | with_reducible refine bl_drewN ?_ _))⟩
  · rw [if_neg hs] at hQ
    have HRI := hide (fun W hm => readItem_top s W (by omega) hm)
    have HM := hide hm
    have HRR := hide (rdV_ref s.data.toList)
    have HQ := hide hQ
    clear hm hQ
    go_enter Tryz.func7, Tryz.ntmps7
    go_upto_region 4 with (go_at_call 17; (refine (HRI.out _ (maxTold_below HM.out HS.out.bel)).mono ?_); rintro e W1 ⟨hbl, x, A, c, rest, cd, rfl, hlin, hlen, hfl, hr, hri⟩; have HX := hide (And.intro hlin (And.intro hlen (And.intro hfl (And.intro hr hri)))); have HG0 := hide hg; have HS1 := hide (HS.out.below hbl); clear d0 d1 d2 d3 d4 y0 y1 y2 y3 y4 hg; clear HS hlin hlen hfl hr hri hbl; have HS := HS1; clear HS1; obtain ⟨d0, d1, d2, d3, d4, y0, y1, y2, y3, y4, hg⟩ := HS.out.cells; (try simp only [V.arg]))
    have HS1 := hide (HS.out.alloc (.cells #[.int .i64 x.k, .int .i64 x.i, .int .i64 x.t, .string x.s, .slice A x.l.length c] 24))
    have HSO := HS
    clear d0 d1 d2 d3 d4 y0 y1 y2 y3 y4 hg
    clear HS
    have HS := HS1
    clear HS1
    obtain ⟨d0, d1, d2, d3, d4, y0, y1, y2, y3, y4, hg⟩ := HS.out.cells
    rcases HX.out.2.2.2.2 with ⟨hO, rfl⟩ | ⟨f2, hO, hcd⟩
    · obtain rfl : Q = (vN, 8) := by
        rcases HRR.out with ⟨v, h, _⟩ | ⟨v, h, _⟩ | ⟨_, h⟩
        · rw [hO] at h; cases h
        · rw [hO] at h; cases h
        · rw [← HQ.out, h]; rfl
      clear hO
      go_wp2
      refine bodyPost_ret (res_cellV (P := Tryz.prog) (fn := Tryz.f7) (p := 2) (u := 3) rfl _ _ _ 24 #[.int .i64 0, .int .i64 0, .int .i64 0, .string ⟨#[]⟩, .slice none 0 0] (0, 0) _ rfl (HS.out.end _ _ _ _ _).1 Tryz.underlying24 rfl (by kernel_rfl)) rfl ?_
      exact ⟨none, 0, rfl, LIn.nil.at_ (P := fun _ => False) (fun b hb => hb.elim), (HS.out.end _ _ _ _ _).2⟩
    · have hc8 : (cd == 8) = false := by rw [hcd]; cases f2 <;> rfl
      cases hrl : rest.data.toList with
      | cons b r =>
        obtain rfl : Q = (vN, 8) := by
          rw [hrl] at hO
          rcases HRR.out with ⟨v, h, _⟩ | ⟨v, h, _⟩ | ⟨_, h⟩
          · rw [hO] at h; cases h
          · rw [hO] at h; cases h
          · rw [← HQ.out, h]; rfl
        have t1 : rest.toList.isEmpty = false := by rw [Lib.toList_data, hrl]; rfl
        have t2 : (rest.toList == []) = false := by rw [Lib.toList_data, hrl]; rfl
        clear hO hcd hrl
        go_wp2
        refine bodyPost_ret (res_cellV (P := Tryz.prog) (fn := Tryz.f7) (p := 2) (u := 3) rfl _ _ _ 24 #[.int .i64 0, .int .i64 0, .int .i64 0, .string ⟨#[]⟩, .slice none 0 0] (0, 0) _ rfl (HS.out.end _ _ _ _ _).1 Tryz.underlying24 rfl (by kernel_rfl)) rfl ?_
        exact ⟨none, 0, rfl, LIn.nil.at_ (P := fun _ => False) (fun b hb => hb.elim), (HS.out.end _ _ _ _ _).2⟩
      | nil =>
        have t1 : rest.toList.isEmpty = true := by rw [Lib.toList_data, hrl]; rfl
        have t2 : (rest.toList == []) = true := by rw [Lib.toList_data, hrl]; rfl
        rw [hrl] at hO
        cases f2 with
        | true =>
          obtain rfl : Q = (vN, 2) := by
            rcases HRR.out with ⟨v, h, _⟩ | ⟨v, h, e⟩ | ⟨h | ⟨v, b, r, f, h⟩, _⟩
            · rw [hO] at h; cases h
            · rw [← HQ.out, e]; rfl
            · rw [hO] at h; cases h
            · rw [hO] at h; cases h
          obtain rfl : cd = 2 := hcd
          clear hO hrl
          go_wp2
          refine bodyPost_ret (res_cellV (P := Tryz.prog) (fn := Tryz.f7) (p := 2) (u := 3) rfl _ _ _ 24 #[.int .i64 0, .int .i64 0, .int .i64 0, .string ⟨#[]⟩, .slice none 0 0] (0, 0) _ rfl (HS.out.end _ _ _ _ _).1 Tryz.underlying24 rfl (by kernel_rfl)) rfl ?_
          exact ⟨none, 0, rfl, LIn.nil.at_ (P := fun _ => False) (fun b hb => hb.elim), (HS.out.end _ _ _ _ _).2⟩
        | false =>
          have hrd : rdV s.data.toList = (x, 0) := by
            rcases HRR.out with ⟨v, h, e⟩ | ⟨v, h, e⟩ | ⟨h | ⟨v, b, r, f, h⟩, _⟩
            · rw [hO] at h; cases h; exact e
            · rw [hO] at h; cases h
            · rw [hO] at h; cases h
            · rw [hO] at h; cases h
          obtain rfl : cd = 0 := hcd
          have HLA := hide ((HX.out.1.at_ (fun b hb => hb.2)).below (bl_alloc (Below.refl _ _) (.cells #[.int .i64 x.k, .int .i64 x.i, .int .i64 x.t, .string x.s, .slice A x.l.length c] 24)))
          have HC := hide (fun (A : Option Addr) (c : Nat) (W : World) (hL : LAt W A x.l) => valueFault_any x A c W hL)
          have HQ2 := hide (show (if x.err = 0 then (x, (0 : Int)) else (vN, x.err)) = Q by rw [← HQ.out, hrd]; rfl)
          clear hO hrl hrd HRR HQ
          clear d0 d1 d2 d3 d4 y0 y1 y2 y3 y4 hg
          obtain ⟨d0, d1, d2, d3, d4, y0, y1, y2, y3, y4, hg⟩ := HSO.out.cells
          by_cases he : x.err = 0
          · obtain rfl : Q = (x, 0) := by rw [← HQ2.out, if_pos he]
            rw [he] at HC
            clear he HQ2
            go_wp2_with (first | (go_at_call 18; (refine (HC.out _ _ _ (HLA.out.below (by repeat (first | exact Below.refl _ _ | with_reducible refine bl_plus ?_ | with_reducible refine bl_alloc ?_ _ | with_reducible refine bl_drew ?_ | with_reducible refine bl_drewN ?_ _)))).mono ?_); rintro e w' ⟨rfl, hbl⟩; obtain ⟨os2, n2, rfl⟩ := below_plus hbl; clear hbl))
            refine bodyPost_ret (res_cellV (P := Tryz.prog) (fn := Tryz.f7) (p := 2) (u := 3) rfl _ _ _ 24 #[.int .i64 x.k, .int .i64 x.i, .int .i64 x.t, .string x.s, .slice A x.l.length c] (0, 0) _ rfl ((HSO.out.end _ _ _ _ _).1.alloc _).plus Tryz.underlying24 rfl (by kernel_rfl)) rfl ?_
            exact ⟨A, c, rfl, ((HX.out.1.frame fun b hb => five_far (by have h9 := hb.1; have h8 := HG0.out; omega)).at_ (fun b hb => by rw [five_size]; exact hb.2)).below (bl_plus (bl_alloc (Below.refl _ _) _)), plus_below ((HSO.out.end _ _ _ _ _).2.alloc (by rw [five_size]; exact Nat.le_of_lt HSO.out.blk.lt) _) (by rw [World.size_alloc, five_size]; have := HSO.out.blk.lt; omega)⟩
          · obtain rfl : Q = (vN, x.err) := by rw [← HQ2.out, if_neg he]
            have he2 : (x.err != 0) = true := bne_iff_ne.2 he
            clear he HQ2
            generalize x.err = E at *
            go_wp2_with (first | (go_at_call 18; (refine (HC.out _ _ _ (HLA.out.below (by repeat (first | exact Below.refl _ _ | with_reducible refine bl_plus ?_ | with_reducible refine bl_alloc ?_ _ | with_reducible refine bl_drew ?_ | with_reducible refine bl_drewN ?_ _)))).mono ?_); rintro e w' ⟨rfl, hbl⟩; obtain ⟨os2, n2, rfl⟩ := below_plus hbl; clear hbl))
            refine bodyPost_ret (res_cellV (P := Tryz.prog) (fn := Tryz.f7) (p := 2) (u := 3) rfl _ _ _ 24 #[.int .i64 0, .int .i64 0, .int .i64 0, .string ⟨#[]⟩, .slice none 0 0] (0, 0) _ rfl ((HSO.out.end _ _ _ _ _).1.alloc _).plus Tryz.underlying24 rfl (by kernel_rfl)) rfl ?_
            exact ⟨none, 0, rfl, LIn.nil.at_ (P := fun _ => False) (fun b hb => hb.elim), plus_below ((HSO.out.end _ _ _ _ _).2.alloc (by rw [five_size]; exact Nat.le_of_lt HSO.out.blk.lt) _) (by rw [World.size_alloc, five_size]; have := HSO.out.blk.lt; omega)⟩


end Go.Proofs.YtdncmjlakmkfiaaGreatDoor
