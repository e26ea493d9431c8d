/-
  WALK: a reader of values: a string between marks.
-/
import Derived.Test.YtdncmjlakmkfiaaGreatDoorVwb
import Derived.Test.YtdncmjlakmkfiaaGreatDoorVwc
set_option linter.all false
namespace Go.Proofs.YtdncmjlakmkfiaaGreatDoor
open Go.RowKit

theorem qt_nil (acc : List UInt8) : qt acc [] = none := by unfold qt; rfl

theorem qt_34 (acc r : List UInt8) : qt acc (34 :: r) = some (acc, r) := by cases r <;> (unfold qt; rfl)

theorem qt_esc (acc r : List UInt8) (d : UInt8) (h : d = 34 ∨ d = 92) : qt acc (92 :: d :: r) = qt (acc ++ [d]) r := by
  rw [qt]
  simp [h]

theorem qt_bad (acc r : List UInt8) (h : ∀ d t, r = d :: t → d ≠ 34 ∧ d ≠ 92) : qt acc (92 :: r) = none := by
  cases r with
  | nil => rw [qt]; simp
  | cons d t =>
    obtain ⟨h1, h2⟩ := h d t rfl
    rw [qt]
    simp [h1, h2]

theorem qt_else (acc r : List UInt8) (c : UInt8) (h1 : c ≠ 34) (h2 : c ≠ 92) : qt acc (c :: r) = qt (acc ++ [c]) r := by
  cases r with
  | nil => rw [qt, qt]; simp [h1]
  | cons d t => rw [qt]; simp [h1, h2]

theorem rst_atQ {s : ByteArray} {k : Nat} (h : k < s.size) : rst s k = s[k] :: rst s (k + 1) := by
  unfold rst
  rw [List.drop_eq_getElem_cons (by rw [size_list]; exact h)]
  rfl

theorem qs_34 {s : ByteArray} {q : Nat} (acc : List UInt8) (h : q < s.size) (hc : s[q] = 34) : qt acc (rst s q) = some (acc, rst s (q + 1)) := by
  have e := rst_atQ h
  rw [e]
  exact (congrArg (fun c => qt acc (c :: rst s (q + 1))) hc).trans (qt_34 _ _)

theorem qs_else {s : ByteArray} {q : Nat} (acc : List UInt8) (h : q < s.size) (h1 : ¬ s[q] = 34) (h2 : ¬ s[q] = 92) : qt acc (rst s q) = qt (acc ++ [s[q]]) (rst s (q + 1)) := by
  have e := rst_atQ h
  rw [e]
  exact qt_else _ _ _ h1 h2

theorem qs_esc {s : ByteArray} {q : Nat} (acc : List UInt8) (h : q < s.size) (hq : q + 1 < s.size) (hc : s[q] = 92) (hd : s[q + 1] = 34 ∨ s[q + 1] = 92) : qt acc (rst s q) = qt (acc ++ [s[q + 1]]) (rst s (q + 1 + 1)) := by
  have e := rst_atQ h
  have e2 := rst_atQ hq
  rw [e, e2]
  exact (congrArg (fun c => qt acc (c :: s[q + 1] :: rst s (q + 1 + 1))) hc).trans (qt_esc _ _ _ hd)

theorem qs_bad {s : ByteArray} {q : Nat} (acc : List UInt8) (h : q < s.size) (hc : s[q] = 92) (hd : ∀ hq : q + 1 < s.size, s[q + 1] ≠ 34 ∧ s[q + 1] ≠ 92) : qt acc (rst s q) = none := by
  have e := rst_atQ h
  rw [e]
  refine (congrArg (fun c => qt acc (c :: rst s (q + 1))) hc).trans (qt_bad _ _ fun d t ht => ?_)
  by_cases hq : q + 1 < s.size
  · have e2 := rst_atQ hq
    rw [e2] at ht
    injection ht with ht _
    subst ht
    exact hd hq
  · rw [show rst s (q + 1) = [] from List.drop_of_length_le (by rw [size_list]; omega)] at ht
    cases ht

theorem rst_endQ {s : ByteArray} {k : Nat} (h : s.size ≤ k) : rst s k = [] := List.drop_of_length_le (by rw [size_list]; exact h)

theorem byte_is {c : UInt8} (n : Nat) (hn : n < 256) : ((c.toNat : Int) == (n : Int)) = decide (c = UInt8.ofNat n) := by
  by_cases h : c = UInt8.ofNat n
  · rw [decide_eq_true h, h, beq_iff_eq, UInt8.toNat_ofNat']
    omega
  · rw [decide_eq_false h, beq_eq_false_iff_ne]
    intro e
    apply h
    rw [← UInt8.ofNat_toNat (x := c), show c.toNat = n by omega]

theorem own_keepV {w w' : World} {base : Nat} {e : TypeId} {size : Nat} {v : Value} {n : Nat} {xs : List Value} (h : w.ownsRow base e size v n xs) (hb : ∀ b, base ≤ b → b < w.heap.size → w'.heap[b]? = w.heap[b]?) : w'.ownsRow base e size v n xs := by
  refine ⟨h.1, ?_⟩
  rcases h.2 with h2 | ⟨g, cap, cur, hv, hg, hh, hr⟩
  · exact .inl h2
  · refine .inr ⟨g, cap, cur, hv, hg, ?_, hr⟩
    rw [hb g hg (Blk.lt (cs := cur) hh)]
    exact hh

theorem bldV_keep {w w' : World} {g : Nat} {l : List UInt8} (h : Bld w g l) (hb : ∀ b, g ≤ b → b < w.heap.size → w'.heap[b]? = w.heap[b]?) : Bld w' g l := by
  have key : ∀ {p : Value}, Lib.BuilderAt 195 5 g g p (Lib.byteCells l) w → Lib.BuilderAt 195 5 g g p (Lib.byteCells l) w' := fun hh => by
    have hlt := hh.lt
    obtain ⟨h1, v, h2, h3, h4⟩ := hh
    exact ⟨h1, v, (hb g (Nat.le_refl _) hlt).trans h2, own_keepV h3 hb, h4⟩
  rcases h with h | h
  · exact .inl (key h)
  · exact .inr (key h)

theorem bldV_new (w : World) : Bld (w.alloc (.cells #[.pointer none, .slice none 0 0] 195)) w.heap.size [] :=
  .inl ⟨Nat.le_refl _, .slice none 0 0, Blk.new w _ _, ⟨rfl, .inl ⟨rfl, rfl⟩⟩, by intro h; cases h⟩

theorem St.low {w W W' : World} {g p B : Nat} {s : ByteArray} {k : Nat} {b f : Bool} (h : St w g W p s k b f) (hb : Below B W W') (hg : g < B) (hp : p < B) : St w g W' p s k b f :=
  ⟨h.vr.below hb hp, h.trn.low_ hb (by have := h.lo; omega), h.blk.below hb hg, h.ne, h.lo⟩

theorem bldV_set {w : World} {g p i : Nat} {l : List UInt8} {v : Value} (h : Bld w g l) (hp : p < g) : Bld (w.setCell ⟨p, i, none⟩ v) g l := bldV_keep h fun b h1 _ => Below.heap_setCell w _ v b (by simp only; omega)

theorem bldV_drewN {w : World} {g n : Nat} {l : List UInt8} (h : Bld w g l) : Bld (w.drewN n) g l := bldV_keep h fun _ _ _ => rfl

def atQ (w : World) (p : Nat) : Nat := (intOf ((w.cell? ⟨p, 1, none⟩).getD undef)).toNat

theorem St.atQ {w W : World} {g p : Nat} {s : ByteArray} {k : Nat} {b f : Bool} (h : St w g W p s k b f) : atQ W p = k := by
  unfold Go.Proofs.YtdncmjlakmkfiaaGreatDoor.atQ
  rw [h.cells.1.2.1]
  simp [intOf]

theorem hasV_b (q : ByteArray) (b : Bool) (p k : Nat) (s : ByteArray) (bad far : Bool) (w : World) (hb : Lib.hasPrefix (rst s k) q.data.toList = b) (h : VR 118 w p s k bad far) :
    Calls Tryz.prog 99 #[.pointer (some ⟨p, 0, none⟩), .string q] w fun e w' => e = .returned (.bool b) ∧ ∃ n, w' = w.drewN n := by
  have := hasV_any q p k s bad far w h
  rwa [hb] at this

theorem hp1_at {s : ByteArray} {k : Nat} (c : UInt8) : Lib.hasPrefix (rst s k) [c] = (if h : k < s.size then decide (s[k] = c) else false) := by
  by_cases h : k < s.size
  · rw [dif_pos h, rst_atQ h]
    unfold Lib.hasPrefix
    simp only [List.isPrefixOf, Bool.and_true]
    by_cases e : s[k] = c
    · rw [e]; simp
    · rw [decide_eq_false e, beq_eq_false_iff_ne]; exact fun e2 => e e2.symm
  · rw [dif_neg h, rst_endQ (by omega)]
    rfl

set_option maxHeartbeats 3200000 in
set_option maxRecDepth 100000 in
theorem quotedV_any (p k : Nat) (s : ByteArray) (far : Bool) (w : World) (h : VR 118 w p s k false far) :
    Calls Tryz.prog 98 #[.pointer (some ⟨p, 0, none⟩)] w (LeafOut 118 p s k far (pQ (rst s k)) w) := by
  have hz := h.sz
  have hk := h.le
  have hpw := h.blk.lt
  have HS := hide ((St.start h).alloc (.cells #[.pointer none, .slice none 0 0] 195))
  have HB := hide (show Bld ((w.alloc (.cells zVal 24)).alloc (.cells #[.pointer none, .slice none 0 0] 195)) (w.heap.size + 1) [] by have := bldV_new (w.alloc (.cells zVal 24)); rwa [World.size_alloc] at this)
  have HPG := hide (show p < w.heap.size + 1 by omega)
  have HGG := hide (Nat.lt_succ_self w.heap.size)
  have HBS := hide (fun (W : World) (q : Nat) (hs : St w w.heap.size W p s q false far) (acc : List UInt8) (hb : Bld W (w.heap.size + 1) acc) => (by rcases hb with hb | hb <;> exact Nat.le_of_lt hb.lt : w.heap.size + 1 ≤ W.heap.size))
  generalize hOO : pQ (rst s k) = O
  unfold pQ at hOO
  have HOO := hide hOO
  obtain ⟨⟨c0, c1, c2, c3, z1, z2, z3, hp⟩, ⟨d0, d1, d2, d3, d4, y0, y1, y2, y3, y4, hg⟩, hne, hne2⟩ := HS.out.cells
  clear h hOO hpw
  go_enter Tryz.func98, Tryz.ntmps98
  go_wp2
  go_loopw [] (fun wr => ∃ (q : Nat) (acc : List UInt8), Hid (St w w.heap.size wr p s q false far) ∧ Hid (Bld wr (w.heap.size + 1) acc) ∧ Hid (qt [] (rst s k) = qt acc (rst s q)) ∧ Hid (acc.length ≤ q ∧ k ≤ q)) (fun wr => s.size - atQ wr p)
  case atStart => exact ⟨k, [], HS, HB, hide rfl, hide ⟨Nat.zero_le _, Nat.le_refl _⟩⟩
  case round =>
    obtain ⟨q, acc, HS2, HB2, HQ, HLE⟩ := hrel
    clear c0 c1 c2 c3 z1 z2 z3 hp d0 d1 d2 d3 d4 y0 y1 y2 y3 y4 hg hne hne2
    clear HS HB
    have HS := HS2
    have HB := HB2
    clear HS2 HB2
    obtain ⟨⟨c0, c1, c2, c3, z1, z2, z3, hp⟩, ⟨d0, d1, d2, d3, d4, y0, y1, y2, y3, y4, hg⟩, hne, hne2⟩ := HS.out.cells
    have hqs := HS.out.vr.le
    have HGS := hide (HBS.out _ _ HS.out _ HB.out)
    have i0 : (0 : Int) ≤ (q : Int) := by omega
    by_cases hlt : q < s.size
    · have i1 : (q : Int) < (s.size : Int) := by omega
      have i2 : IntKind.i64.wrap ((q : Int) + 1) = ((q + 1 : Nat) : Int) := by rw [wrap_small] <;> omega
      have HLT := hide hlt
      have HLEN := hide (show acc.length + 1 ≤ 140737488355328 by have := HLE.out; omega)
      by_cases h34 : (s[q]'hlt) = 34
      · have t34 : (((s[q]'hlt).toNat : Int) == 34) = true := (byte_is 34 (by decide)).trans (decide_eq_true h34)
        have HQ2 := hide (HQ.out.trans (qs_34 acc hlt h34))
        have HO2 : Hid (O = some (vStr acc, rst s (q + 1), false)) := by have := HOO.out; rw [HQ2.out] at this; exact this.symm
        clear h34 hqs
        go_wp2_with fail
        go_quiet (fail)
        go_wp2_with fail
        go_quiet (fail)
        go_wp2_with (go_at_call 146; refine (Tryz.bldString (w.heap.size + 1) acc _ ?bld ?bsz).mono ?_; (case bld => exact (by repeat (first | with_reducible exact HB.out | with_reducible refine bldV_set ?_ HPG.out | with_reducible refine bldV_drewN ?_))); (case bsz => exact le_setCell HGS.out _ _); rintro e W2 ⟨rfl, hl2⟩; have HS2 := hide (((HS.out.drewN _).at_ (q + 1) HLT.out).low hl2 HGG.out HPG.out); clear hl2; clear c0 c1 c2 c3 z1 z2 z3 hp d0 d1 d2 d3 d4 y0 y1 y2 y3 y4 hg hne hne2; clear HS HB HGS; have HS := HS2; clear HS2; obtain ⟨⟨c0, c1, c2, c3, z1, z2, z3, hp⟩, ⟨d0, d1, d2, d3, d4, y0, y1, y2, y3, y4, hg⟩, hne, hne2⟩ := HS.out.cells)
        (try simp only [Exit.inBlock, Exit.then])
        refine bodyPost_ret (results_cell_row (P := Tryz.prog) (by rfl) _ _ _ 24 #[.int .i64 3, .int .i64 0, .int .i64 0, .string ⟨acc.toArray⟩, .slice none 0 0] (0, 0) _ rfl (HS.out.end _ _ _ _ _).1 Tryz.underlying24 rfl (by kernel_rfl)) rfl ?_
        exact ⟨vStr acc, rfl, rfl, (HS.out.end _ _ _ _ _).2.2.2, _, _, _, (HS.out.end _ _ _ _ _).2.2.1, by have := HLE.out; omega, .inr ⟨_, false, HO2.out, rfl, (Bool.or_false _).symm, rfl⟩⟩
      · have t34 : (((s[q]'hlt).toNat : Int) == 34) = false := (byte_is 34 (by decide)).trans (decide_eq_false h34)
        by_cases h92 : (s[q]'hlt) = 92
        · have t92 : (((s[q]'hlt).toNat : Int) == 92) = true := (byte_is 92 (by decide)).trans (decide_eq_true h92)
          by_cases hq1 : q + 1 < s.size
          · have HL2 := hide (show q + 1 + 1 ≤ s.size from hq1)
            have j0 : (0 : Int) ≤ (q : Int) + 1 := by omega
            have j1 : (q : Int) + 1 < (s.size : Int) := by omega
            have j2 : ((q : Int) + 1).toNat = q + 1 := by omega
            have j3 : IntKind.i64.wrap ((q : Int) + 1 + 1) = ((q + 1 + 1 : Nat) : Int) := by rw [wrap_small] <;> omega
            have HLE2 := hide (show (acc ++ [(s[q + 1]'hq1)]).length ≤ q + 1 + 1 ∧ k ≤ q + 1 + 1 by rw [List.length_append, List.length_singleton]; have := HLE.out; omega)
            by_cases hd34 : (s[q + 1]'hq1) = 34
            · have HA34 := hide (show Lib.hasPrefix (rst s (q + 1)) (⟨#[34]⟩ : ByteArray).data.toList = true from (hp1_at 34).trans (by rw [dif_pos hq1]; simpa using hd34))
              have H34 := hide (fun n => hasV_b ⟨#[34]⟩ true p (q + 1) s false far _ HA34.out (((HS.out.drewN n).at_ (q + 1) HLT.out)).vr)
              have HQ2 := hide (HQ.out.trans (qs_esc acc hlt hq1 h92 (.inl hd34)))
              clear h34 h92 hqs hd34
              go_wp2_with fail
              go_quiet (fail)
              go_wp2_with fail
              go_quiet (fail)
              go_wp2_with (go_at_call 99; refine (H34.out _).mono ?_; rintro e w' ⟨rfl, n9, rfl⟩)
              go_quiet (fail)
              go_wp2_with (go_at_call 147; refine (Tryz.bldByte (w.heap.size + 1) acc (s[q + 1]'hq1) _ ?bld HLEN.out ?bsz).mono ?_; (case bld => exact (by repeat (first | with_reducible exact HB.out | with_reducible refine bldV_set ?_ HPG.out | with_reducible refine bldV_drewN ?_))); (case bsz => exact (by repeat (first | exact HGS.out | refine le_setCell ?_ _ _))); rintro e W2 ⟨rfl, hb2, hl2⟩; have HB2 := hide hb2; have HS2 := hide ((((((HS.out.drewN _).at_ (q + 1) HLT.out)).drewN _).at_ (q + 1 + 1) HL2.out).low hl2 HGG.out HPG.out); clear hb2 hl2)
              go_roundw
              case rel => exact ⟨q + 1 + 1, _, HS2, HB2, HQ2, HLE2⟩
              case measure =>
                have h1 := HS2.out.atQ
                have h2 := HS.out.atQ
                have h3 := HLT.out
                show s.size - atQ _ p < s.size - atQ _ p
                rw [h2]
                refine Nat.lt_of_le_of_lt (Nat.le_of_eq (congrArg (s.size - ·) h1)) ?_
                show s.size - (q + 1 + 1) < s.size - q
                omega
            · have HA34 := hide (show Lib.hasPrefix (rst s (q + 1)) (⟨#[34]⟩ : ByteArray).data.toList = false from (hp1_at 34).trans (by rw [dif_pos hq1]; simpa using hd34))
              by_cases hd92 : (s[q + 1]'hq1) = 92
              · have HA92 := hide (show Lib.hasPrefix (rst s (q + 1)) (⟨#[92]⟩ : ByteArray).data.toList = true from (hp1_at 92).trans (by rw [dif_pos hq1]; simpa using hd92))
                have H34 := hide (fun n => hasV_b ⟨#[34]⟩ false p (q + 1) s false far _ HA34.out (((HS.out.drewN n).at_ (q + 1) HLT.out)).vr)
                have H92 := hide (fun n m => hasV_b ⟨#[92]⟩ true p (q + 1) s false far _ HA92.out ((((HS.out.drewN n).at_ (q + 1) HLT.out)).drewN m).vr)
                have HQ2 := hide (HQ.out.trans (qs_esc acc hlt hq1 h92 (.inr hd92)))
                clear h34 h92 hqs hd34 hd92
                go_wp2_with fail
                go_quiet (fail)
                go_wp2_with fail
                go_quiet (fail)
                go_wp2_with (first | (go_at_call_of 99 (Value.string ⟨#[34]⟩); refine (H34.out _).mono ?_; rintro e w' ⟨rfl, n9, rfl⟩) | (go_at_call_of 99 (Value.string ⟨#[92]⟩); refine (H92.out _ _).mono ?_; rintro e w' ⟨rfl, n8, rfl⟩))
                go_quiet (fail)
                go_wp2_with (go_at_call 147; refine (Tryz.bldByte (w.heap.size + 1) acc (s[q + 1]'hq1) _ ?bld HLEN.out ?bsz).mono ?_; (case bld => exact (by repeat (first | with_reducible exact HB.out | with_reducible refine bldV_set ?_ HPG.out | with_reducible refine bldV_drewN ?_))); (case bsz => exact (by repeat (first | exact HGS.out | refine le_setCell ?_ _ _))); rintro e W2 ⟨rfl, hb2, hl2⟩; have HB2 := hide hb2; have HS2 := hide ((((((HS.out.drewN _).at_ (q + 1) HLT.out)).drewN _).at_ (q + 1 + 1) HL2.out).low hl2 HGG.out HPG.out); clear hb2 hl2)
                go_roundw
                case rel => exact ⟨q + 1 + 1, _, HS2, HB2, HQ2, HLE2⟩
                case measure =>
                  have h1 := HS2.out.atQ
                  have h2 := HS.out.atQ
                  have h3 := HLT.out
                  show s.size - atQ _ p < s.size - atQ _ p
                  rw [h2]
                  refine Nat.lt_of_le_of_lt (Nat.le_of_eq (congrArg (s.size - ·) h1)) ?_
                  show s.size - (q + 1 + 1) < s.size - q
                  omega
              · have HA92 := hide (show Lib.hasPrefix (rst s (q + 1)) (⟨#[92]⟩ : ByteArray).data.toList = false from (hp1_at 92).trans (by rw [dif_pos hq1]; simpa using hd92))
                have HO2 : Hid (O = none) := by have := HOO.out; rw [HQ.out, qs_bad acc hlt h92 (fun _ => ⟨hd34, hd92⟩)] at this; exact this.symm
                have HKQ := hide (show k ≤ q + 1 from Nat.le_succ_of_le HLE.out.2)
                have H34 := hide (fun n => hasV_b ⟨#[34]⟩ false p (q + 1) s false far _ HA34.out (((HS.out.drewN n).at_ (q + 1) HLT.out)).vr)
                have H92 := hide (fun n m => hasV_b ⟨#[92]⟩ false p (q + 1) s false far _ HA92.out ((((HS.out.drewN n).at_ (q + 1) HLT.out)).drewN m).vr)
                clear h34 h92 hqs
                go_wp2_with fail
                go_quiet (fail)
                go_wp2_with fail
                go_quiet (fail)
                go_wp2_with (first | (go_at_call_of 99 (Value.string ⟨#[34]⟩); refine (H34.out _).mono ?_; rintro e w' ⟨rfl, n9, rfl⟩) | (go_at_call_of 99 (Value.string ⟨#[92]⟩); refine (H92.out _ _).mono ?_; rintro e w' ⟨rfl, n8, rfl⟩))
                (try simp only [Exit.inBlock, Exit.then])
                refine bodyPost_ret (results_cell_row (P := Tryz.prog) (by rfl) _ _ _ 24 #[.int .i64 0, .int .i64 0, .int .i64 0, .string ⟨#[]⟩, .slice none 0 0] (0, 0) _ rfl ((((((HS.out.drewN _).at_ (q + 1) HLT.out)).drewN _).bad_ true).end _ _ _ _ _).1 Tryz.underlying24 rfl (by kernel_rfl)) rfl ?_
                exact ⟨vN, rfl, rfl, ((((((HS.out.drewN _).at_ (q + 1) HLT.out)).drewN _).bad_ true).end _ _ _ _ _).2.2.2, _, _, _, ((((((HS.out.drewN _).at_ (q + 1) HLT.out)).drewN _).bad_ true).end _ _ _ _ _).2.2.1, HKQ.out, .inl ⟨HO2.out, rfl⟩⟩
          · have HA34 := hide (show Lib.hasPrefix (rst s (q + 1)) (⟨#[34]⟩ : ByteArray).data.toList = false from (hp1_at 34).trans (by rw [dif_neg hq1]))
            have HA92 := hide (show Lib.hasPrefix (rst s (q + 1)) (⟨#[92]⟩ : ByteArray).data.toList = false from (hp1_at 92).trans (by rw [dif_neg hq1]))
            have HO2 : Hid (O = none) := by have := HOO.out; rw [HQ.out, qs_bad acc hlt h92 (fun h => absurd h hq1)] at this; exact this.symm
            have HKQ := hide (show k ≤ q + 1 from Nat.le_succ_of_le HLE.out.2)
            have H34 := hide (fun n => hasV_b ⟨#[34]⟩ false p (q + 1) s false far _ HA34.out (((HS.out.drewN n).at_ (q + 1) HLT.out)).vr)
            have H92 := hide (fun n m => hasV_b ⟨#[92]⟩ false p (q + 1) s false far _ HA92.out ((((HS.out.drewN n).at_ (q + 1) HLT.out)).drewN m).vr)
            clear h34 h92 hqs
            go_wp2_with fail
            go_quiet (fail)
            go_wp2_with fail
            go_quiet (fail)
            go_wp2_with (first | (go_at_call_of 99 (Value.string ⟨#[34]⟩); refine (H34.out _).mono ?_; rintro e w' ⟨rfl, n9, rfl⟩) | (go_at_call_of 99 (Value.string ⟨#[92]⟩); refine (H92.out _ _).mono ?_; rintro e w' ⟨rfl, n8, rfl⟩))
            (try simp only [Exit.inBlock, Exit.then])
            refine bodyPost_ret (results_cell_row (P := Tryz.prog) (by rfl) _ _ _ 24 #[.int .i64 0, .int .i64 0, .int .i64 0, .string ⟨#[]⟩, .slice none 0 0] (0, 0) _ rfl ((((((HS.out.drewN _).at_ (q + 1) HLT.out)).drewN _).bad_ true).end _ _ _ _ _).1 Tryz.underlying24 rfl (by kernel_rfl)) rfl ?_
            exact ⟨vN, rfl, rfl, ((((((HS.out.drewN _).at_ (q + 1) HLT.out)).drewN _).bad_ true).end _ _ _ _ _).2.2.2, _, _, _, ((((((HS.out.drewN _).at_ (q + 1) HLT.out)).drewN _).bad_ true).end _ _ _ _ _).2.2.1, HKQ.out, .inl ⟨HO2.out, rfl⟩⟩
        · have t92 : (((s[q]'hlt).toNat : Int) == 92) = false := (byte_is 92 (by decide)).trans (decide_eq_false h92)
          have HQ2 := hide (HQ.out.trans (qs_else acc hlt h34 h92))
          have HLE2 := hide (show (acc ++ [(s[q]'hlt)]).length ≤ q + 1 ∧ k ≤ q + 1 by rw [List.length_append, List.length_singleton]; have := HLE.out; omega)
          clear h34 h92 hqs
          go_wp2_with fail
          go_quiet (fail)
          go_wp2_with fail
          go_quiet (fail)
          go_wp2_with (go_at_call 147; refine (Tryz.bldByte (w.heap.size + 1) acc (s[q]'hlt) _ ?bld HLEN.out ?bsz).mono ?_; (case bld => exact (by repeat (first | with_reducible exact HB.out | with_reducible refine bldV_set ?_ HPG.out | with_reducible refine bldV_drewN ?_))); (case bsz => exact le_setCell HGS.out _ _); rintro e W2 ⟨rfl, hb2, hl2⟩; have HB2 := hide hb2; have HS2 := hide (((HS.out.drewN _).at_ (q + 1) HLT.out).low hl2 HGG.out HPG.out); clear hb2 hl2)
          go_roundw
          case rel => exact ⟨q + 1, _, HS2, HB2, HQ2, HLE2⟩
          case measure =>
            have h1 := HS2.out.atQ
            have h2 := HS.out.atQ
            have h3 := HLT.out
            show s.size - atQ _ p < s.size - atQ _ p
            rw [h2]
            refine Nat.lt_of_le_of_lt (Nat.le_of_eq (congrArg (s.size - ·) h1)) ?_
            show s.size - (q + 1) < s.size - q
            omega
    · have i1 : decide (q < s.size) = false := decide_eq_false hlt
      have HO2 : Hid (O = none) := by have := HOO.out; rw [HQ.out, rst_endQ (by omega), qt_nil] at this; exact this.symm
      have HKQ := hide HLE.out.2
      clear hqs hlt
      go_wp2_with fail
      go_quiet (fail)
      go_wp2
      (try simp only [Exit.inBlock, Exit.then])
      refine bodyPost_ret (results_cell_row (P := Tryz.prog) (by rfl) _ _ _ 24 #[.int .i64 0, .int .i64 0, .int .i64 0, .string ⟨#[]⟩, .slice none 0 0] (0, 0) _ rfl (((HS.out.drewN _).bad_ true).end _ _ _ _ _).1 Tryz.underlying24 rfl (by kernel_rfl)) rfl ?_
      exact ⟨vN, rfl, rfl, (((HS.out.drewN _).bad_ true).end _ _ _ _ _).2.2.2, _, _, _, (((HS.out.drewN _).bad_ true).end _ _ _ _ _).2.2.1, HKQ.out, .inl ⟨HO2.out, rfl⟩⟩


end Go.Proofs.YtdncmjlakmkfiaaGreatDoor
/-
  WALKS: a reader of values: a value that begins with no bracket; an item.
-/
namespace Go.Proofs.YtdncmjlakmkfiaaGreatDoor
open Go.RowKit

/-- A value that begins with no bracket. -/
def lvP (l : List UInt8) : Got := if Lib.hasPrefix l [34] = true then pQ (l.drop 1) else pWord l

theorem bare_at (s : ByteArray) (k : Nat) : bare (rst s k) = (Lib.hasPrefix (rst s k) [45] && (if h : k + 1 < s.size then !dgB (s[k + 1]'h) else true)) := by
  unfold bare
  rw [← List.drop_one, rst_drop]
  by_cases h : k + 1 < s.size
  · rw [dif_pos h, rst_atQ h]
  · rw [dif_neg h, show rst s (k + 1) = [] from rst_endQ (by omega)]

theorem lv_yes {l : List UInt8} (h : Lib.hasPrefix l yesL = true) : lvP l = some (vFlag 1, l.drop 3, false) := by
  obtain ⟨r, rfl⟩ := hp_iff.1 h
  have e : Lib.hasPrefix (yesL ++ r) [34] = false := hp_head (by decide)
  unfold lvP pWord
  rw [e, if_neg (by decide), if_pos h]

theorem lv_no {l : List UInt8} (h0 : Lib.hasPrefix l yesL = false) (h : Lib.hasPrefix l noL = true) : lvP l = some (vFlag 0, l.drop 2, false) := by
  obtain ⟨r, rfl⟩ := hp_iff.1 h
  have e : Lib.hasPrefix (noL ++ r) [34] = false := hp_head (by decide)
  unfold lvP pWord
  rw [e, h0, if_neg (by decide), if_neg (by decide), if_pos h]

theorem lv_q {l : List UInt8} (h : Lib.hasPrefix l [34] = true) : lvP l = pQ (l.drop 1) := by
  unfold lvP
  rw [if_pos h]

theorem lv_w {l : List UInt8} (h0 : Lib.hasPrefix l yesL = false) (h1 : Lib.hasPrefix l noL = false) (h : Lib.hasPrefix l [34] = false) : lvP l = (match pDays l with | some x => x | none => if bare l = true then some (vN, l.drop 1, false) else pNum l) := by
  unfold lvP pWord
  rw [h, h0, h1]
  simp only [Bool.false_eq_true, if_false]
  cases pDays l <;> rfl

set_option maxHeartbeats 3200000 in
set_option maxRecDepth 100000 in
theorem valueV_leaf (p k : Nat) (s : ByteArray) (far : Bool) (w : World) (hP : ∀ w', Trn p w w' → PowTab w') (hb : Lib.hasPrefix (rst s k) [91] = false) (h : VR 118 w p s k false far) :
    Calls Tryz.prog 52 #[.pointer (some ⟨p, 0, none⟩)] w (LeafOut 118 p s k far (lvP (rst s k)) w) := by
  have hz := h.sz
  have hk := h.le
  have hb2 : Lib.hasPrefix (rst s k) [91, 91] = false := by
    cases h2 : Lib.hasPrefix (rst s k) [91, 91] with
    | false => rfl
    | true =>
      obtain ⟨t, ht⟩ := hp_iff.1 h2
      rw [hp_iff.2 ⟨91 :: t, ht⟩] at hb
      cases hb
  have HS := hide (St.start h)
  obtain ⟨⟨c0, c1, c2, c3, z1, z2, z3, hp⟩, ⟨d0, d1, d2, d3, d4, y0, y1, y2, y3, y4, hg⟩, hne, hne2⟩ := HS.out.cells
  have HP := hide hP
  have HB2 := hide (show Lib.hasPrefix (rst s k) (⟨#[91, 91]⟩ : ByteArray).data.toList = false from hb2)
  have HB := hide (show Lib.hasPrefix (rst s k) (⟨#[91]⟩ : ByteArray).data.toList = false from hb)
  clear h hP hb hb2
  cases hy : Lib.hasPrefix (rst s k) yesL with
  | true =>
    have HO := hide (lv_yes hy)
    rw [HO.out, rst_drop]
    have HY := hide (show Lib.hasPrefix (rst s k) (⟨#[121, 101, 115]⟩ : ByteArray).data.toList = true from hy)
    clear hy HO
    go_enter Tryz.func52, Tryz.ntmps52
    go_wp2_with (first | (go_at_call_of 97 (Value.string ⟨#[121, 101, 115]⟩); with_reducible refine (takeV_yes ⟨#[121, 101, 115]⟩ _ _ _ _ _ _ 3 rfl HY.out HS.out.vr).mono ?_; rintro e W1 ⟨rfl, hv, ht⟩; have HS1 := hide (HS.out.step ht hv); clear c0 c1 c2 c3 z1 z2 z3 hp d0 d1 d2 d3 d4 y0 y1 y2 y3 y4 hg hne hne2; clear HS ht hv; have HS := HS1; clear HS1; obtain ⟨⟨c0, c1, c2, c3, z1, z2, z3, hp⟩, ⟨d0, d1, d2, d3, d4, y0, y1, y2, y3, y4, hg⟩, hne, hne2⟩ := HS.out.cells))
    refine bodyPost_ret (results_cell_row (P := Tryz.prog) (by rfl) _ _ _ 24 #[.int .i64 1, .int .i64 1, .int .i64 0, .string ⟨#[]⟩, .slice none 0 0] (0, 0) _ rfl (HS.out.end _ _ _ _ _).1 Tryz.underlying24 rfl (by kernel_rfl)) rfl ?_
    exact ⟨vFlag 1, rfl, rfl, (HS.out.end _ _ _ _ _).2.2.2, _, _, _, (HS.out.end _ _ _ _ _).2.2.1, by omega, .inr ⟨_, false, rfl, rfl, (Bool.or_false _).symm, rfl⟩⟩
  | false =>
    cases hn : Lib.hasPrefix (rst s k) noL with
    | true =>
      have HO := hide (lv_no hy hn)
      rw [HO.out, rst_drop]
      have HY := hide (show Lib.hasPrefix (rst s k) (⟨#[121, 101, 115]⟩ : ByteArray).data.toList = false from hy)
      have HN := hide (show Lib.hasPrefix (rst s k) (⟨#[110, 111]⟩ : ByteArray).data.toList = true from hn)
      clear hy hn HO
      go_enter Tryz.func52, Tryz.ntmps52
      go_wp2_with (first | (go_at_call_of 97 (Value.string ⟨#[121, 101, 115]⟩); with_reducible refine (takeV_no ⟨#[121, 101, 115]⟩ _ _ _ _ _ _ HY.out HS.out.vr).mono ?_; rintro e W1 ⟨rfl, hv, ht⟩; have HS1 := hide (HS.out.step ht hv); clear c0 c1 c2 c3 z1 z2 z3 hp d0 d1 d2 d3 d4 y0 y1 y2 y3 y4 hg hne hne2; clear HS ht hv; have HS := HS1; clear HS1; obtain ⟨⟨c0, c1, c2, c3, z1, z2, z3, hp⟩, ⟨d0, d1, d2, d3, d4, y0, y1, y2, y3, y4, hg⟩, hne, hne2⟩ := HS.out.cells) | (go_at_call_of 97 (Value.string ⟨#[110, 111]⟩); with_reducible refine (takeV_yes ⟨#[110, 111]⟩ _ _ _ _ _ _ 2 rfl HN.out HS.out.vr).mono ?_; rintro e W1 ⟨rfl, hv, ht⟩; have HS1 := hide (HS.out.step ht hv); clear c0 c1 c2 c3 z1 z2 z3 hp d0 d1 d2 d3 d4 y0 y1 y2 y3 y4 hg hne hne2; clear HS ht hv; have HS := HS1; clear HS1; obtain ⟨⟨c0, c1, c2, c3, z1, z2, z3, hp⟩, ⟨d0, d1, d2, d3, d4, y0, y1, y2, y3, y4, hg⟩, hne, hne2⟩ := HS.out.cells))
      refine bodyPost_ret (results_cell_row (P := Tryz.prog) (by rfl) _ _ _ 24 #[.int .i64 1, .int .i64 0, .int .i64 0, .string ⟨#[]⟩, .slice none 0 0] (0, 0) _ rfl (HS.out.end _ _ _ _ _).1 Tryz.underlying24 rfl (by kernel_rfl)) rfl ?_
      exact ⟨vFlag 0, rfl, rfl, (HS.out.end _ _ _ _ _).2.2.2, _, _, _, (HS.out.end _ _ _ _ _).2.2.1, by omega, .inr ⟨_, false, rfl, rfl, (Bool.or_false _).symm, rfl⟩⟩
    | false =>
      cases hq : Lib.hasPrefix (rst s k) [34] with
      | true =>
        have HO := hide (lv_q hq)
        rw [HO.out, rst_drop]
        have HY := hide (show Lib.hasPrefix (rst s k) (⟨#[121, 101, 115]⟩ : ByteArray).data.toList = false from hy)
        have HN := hide (show Lib.hasPrefix (rst s k) (⟨#[110, 111]⟩ : ByteArray).data.toList = false from hn)
        have HQ := hide (show Lib.hasPrefix (rst s k) (⟨#[34]⟩ : ByteArray).data.toList = true from hq)
        clear hy hn hq HO
        go_enter Tryz.func52, Tryz.ntmps52
        go_wp2_with (first | (go_at_call_of 97 (Value.string ⟨#[121, 101, 115]⟩); with_reducible refine (takeV_no ⟨#[121, 101, 115]⟩ _ _ _ _ _ _ HY.out HS.out.vr).mono ?_; rintro e W1 ⟨rfl, hv, ht⟩; have HS1 := hide (HS.out.step ht hv); clear c0 c1 c2 c3 z1 z2 z3 hp d0 d1 d2 d3 d4 y0 y1 y2 y3 y4 hg hne hne2; clear HS ht hv; have HS := HS1; clear HS1; obtain ⟨⟨c0, c1, c2, c3, z1, z2, z3, hp⟩, ⟨d0, d1, d2, d3, d4, y0, y1, y2, y3, y4, hg⟩, hne, hne2⟩ := HS.out.cells) | (go_at_call_of 97 (Value.string ⟨#[110, 111]⟩); with_reducible refine (takeV_no ⟨#[110, 111]⟩ _ _ _ _ _ _ HN.out HS.out.vr).mono ?_; rintro e W1 ⟨rfl, hv, ht⟩; have HS1 := hide (HS.out.step ht hv); clear c0 c1 c2 c3 z1 z2 z3 hp d0 d1 d2 d3 d4 y0 y1 y2 y3 y4 hg hne hne2; clear HS ht hv; have HS := HS1; clear HS1; obtain ⟨⟨c0, c1, c2, c3, z1, z2, z3, hp⟩, ⟨d0, d1, d2, d3, d4, y0, y1, y2, y3, y4, hg⟩, hne, hne2⟩ := HS.out.cells) | (go_at_call_of 97 (Value.string ⟨#[34]⟩); with_reducible refine (takeV_yes ⟨#[34]⟩ _ _ _ _ _ _ 1 rfl HQ.out HS.out.vr).mono ?_; rintro e W1 ⟨rfl, hv, ht⟩; have HS1 := hide (HS.out.step ht hv); clear c0 c1 c2 c3 z1 z2 z3 hp d0 d1 d2 d3 d4 y0 y1 y2 y3 y4 hg hne hne2; clear HS ht hv; have HS := HS1; clear HS1; obtain ⟨⟨c0, c1, c2, c3, z1, z2, z3, hp⟩, ⟨d0, d1, d2, d3, d4, y0, y1, y2, y3, y4, hg⟩, hne, hne2⟩ := HS.out.cells) | (go_at_call 98; (with_reducible refine (quotedV_any _ _ _ _ _ HS.out.vr).mono ?_); rintro e W1 ⟨x, hx, rfl, ht, k', b', f', hv, hk2, hgi⟩; have HX := hide (And.intro hx (And.intro hk2 hgi)); clear hx hk2 hgi; (try simp only [V.flat]); have HS1 := hide (HS.out.step ht hv); clear c0 c1 c2 c3 z1 z2 z3 hp d0 d1 d2 d3 d4 y0 y1 y2 y3 y4 hg hne hne2; clear HS ht hv; have HS := HS1; clear HS1; obtain ⟨⟨c0, c1, c2, c3, z1, z2, z3, hp⟩, ⟨d0, d1, d2, d3, d4, y0, y1, y2, y3, y4, hg⟩, hne, hne2⟩ := HS.out.cells))
        refine bodyPost_ret (results_cell_row (P := Tryz.prog) (by rfl) _ _ _ 24 #[.int .i64 x.k, .int .i64 x.i, .int .i64 x.t, .string x.s, .slice none 0 0] (0, 0) _ rfl (HS.out.end _ _ _ _ _).1 Tryz.underlying24 rfl (by kernel_rfl)) rfl ?_
        exact ⟨x, HX.out.1, rfl, (HS.out.end _ _ _ _ _).2.2.2, _, _, _, (HS.out.end _ _ _ _ _).2.2.1, by have := HX.out.2.1; omega, HX.out.2.2⟩
      | false =>
        have HO := hide (lv_w hy hn hq)
        have HY := hide (show Lib.hasPrefix (rst s k) (⟨#[121, 101, 115]⟩ : ByteArray).data.toList = false from hy)
        have HN := hide (show Lib.hasPrefix (rst s k) (⟨#[110, 111]⟩ : ByteArray).data.toList = false from hn)
        have HQ := hide (show Lib.hasPrefix (rst s k) (⟨#[34]⟩ : ByteArray).data.toList = false from hq)
        clear hy hn hq
        cases hd : pDays (rst s k) with
        | some O' =>
          have ho := HO.out
          rw [hd] at ho
          simp only at ho
          rw [ho]
          have hf : isDateF ((rst s k).take 10) = true := by
            rcases pDate_form (s := s) (k := k) with hp | ⟨hf, _⟩
            · unfold pDays at hd; rw [hp] at hd; cases hd
            · exact hf
          have HDD := hide (fun (W : World) (hv : VR 118 W p s k false far) => daysV_some p k s far W hf O' hd hv)
          clear ho hd hf HO
          go_enter Tryz.func52, Tryz.ntmps52
          go_wp2_with (first | (go_at_call_of 97 (Value.string ⟨#[121, 101, 115]⟩); with_reducible refine (takeV_no ⟨#[121, 101, 115]⟩ _ _ _ _ _ _ HY.out HS.out.vr).mono ?_; rintro e W1 ⟨rfl, hv, ht⟩; have HS1 := hide (HS.out.step ht hv); clear c0 c1 c2 c3 z1 z2 z3 hp d0 d1 d2 d3 d4 y0 y1 y2 y3 y4 hg hne hne2; clear HS ht hv; have HS := HS1; clear HS1; obtain ⟨⟨c0, c1, c2, c3, z1, z2, z3, hp⟩, ⟨d0, d1, d2, d3, d4, y0, y1, y2, y3, y4, hg⟩, hne, hne2⟩ := HS.out.cells) | (go_at_call_of 97 (Value.string ⟨#[110, 111]⟩); with_reducible refine (takeV_no ⟨#[110, 111]⟩ _ _ _ _ _ _ HN.out HS.out.vr).mono ?_; rintro e W1 ⟨rfl, hv, ht⟩; have HS1 := hide (HS.out.step ht hv); clear c0 c1 c2 c3 z1 z2 z3 hp d0 d1 d2 d3 d4 y0 y1 y2 y3 y4 hg hne hne2; clear HS ht hv; have HS := HS1; clear HS1; obtain ⟨⟨c0, c1, c2, c3, z1, z2, z3, hp⟩, ⟨d0, d1, d2, d3, d4, y0, y1, y2, y3, y4, hg⟩, hne, hne2⟩ := HS.out.cells) | (go_at_call_of 97 (Value.string ⟨#[34]⟩); with_reducible refine (takeV_no ⟨#[34]⟩ _ _ _ _ _ _ HQ.out HS.out.vr).mono ?_; rintro e W1 ⟨rfl, hv, ht⟩; have HS1 := hide (HS.out.step ht hv); clear c0 c1 c2 c3 z1 z2 z3 hp d0 d1 d2 d3 d4 y0 y1 y2 y3 y4 hg hne hne2; clear HS ht hv; have HS := HS1; clear HS1; obtain ⟨⟨c0, c1, c2, c3, z1, z2, z3, hp⟩, ⟨d0, d1, d2, d3, d4, y0, y1, y2, y3, y4, hg⟩, hne, hne2⟩ := HS.out.cells) | (go_at_call_of 99 (Value.string ⟨#[91, 91]⟩); with_reducible refine (hasV_b ⟨#[91, 91]⟩ false _ _ _ _ _ _ HB2.out HS.out.vr).mono ?_; rintro e w' ⟨rfl, n9, rfl⟩; have HS1 := hide (HS.out.drewN n9); clear c0 c1 c2 c3 z1 z2 z3 hp d0 d1 d2 d3 d4 y0 y1 y2 y3 y4 hg hne hne2; clear HS; have HS := HS1; clear HS1; obtain ⟨⟨c0, c1, c2, c3, z1, z2, z3, hp⟩, ⟨d0, d1, d2, d3, d4, y0, y1, y2, y3, y4, hg⟩, hne, hne2⟩ := HS.out.cells) | (go_at_call_of 97 (Value.string ⟨#[91]⟩); with_reducible refine (takeV_no ⟨#[91]⟩ _ _ _ _ _ _ HB.out HS.out.vr).mono ?_; rintro e W1 ⟨rfl, hv, ht⟩; have HS1 := hide (HS.out.step ht hv); clear c0 c1 c2 c3 z1 z2 z3 hp d0 d1 d2 d3 d4 y0 y1 y2 y3 y4 hg hne hne2; clear HS ht hv; have HS := HS1; clear HS1; obtain ⟨⟨c0, c1, c2, c3, z1, z2, z3, hp⟩, ⟨d0, d1, d2, d3, d4, y0, y1, y2, y3, y4, hg⟩, hne, hne2⟩ := HS.out.cells) | (go_at_call 102; (with_reducible refine (HDD.out _ HS.out.vr).mono ?_); rintro e W1 ⟨x, hx, rfl, ht, k', b', f', hv, hk2, hgi⟩; have HX := hide (And.intro hx (And.intro hk2 hgi)); clear hx hk2 hgi; (try simp only [V.flat]); have HS1 := hide (HS.out.step ht hv); clear c0 c1 c2 c3 z1 z2 z3 hp d0 d1 d2 d3 d4 y0 y1 y2 y3 y4 hg hne hne2; clear HS ht hv; have HS := HS1; clear HS1; obtain ⟨⟨c0, c1, c2, c3, z1, z2, z3, hp⟩, ⟨d0, d1, d2, d3, d4, y0, y1, y2, y3, y4, hg⟩, hne, hne2⟩ := HS.out.cells))
          refine bodyPost_ret (results_cell_row (P := Tryz.prog) (by rfl) _ _ _ 24 #[.int .i64 x.k, .int .i64 x.i, .int .i64 x.t, .string x.s, .slice none 0 0] (0, 0) _ rfl ((HS.out.end _ _ _ _ _).1.alloc _) Tryz.underlying24 rfl (by kernel_rfl)) rfl ?_
          exact ⟨x, HX.out.1, rfl, (HS.out.end _ _ _ _ _).2.2.2.alloc _, _, _, _, (HS.out.end _ _ _ _ _).2.2.1.alloc _, HX.out.2.1, HX.out.2.2⟩
        | none =>
          have ho := HO.out
          rw [hd] at ho
          simp only at ho
          have hpd : pDate (rst s k) = none := by
            rcases pDate_form (s := s) (k := k) with hp | ⟨_, hp⟩
            · exact hp
            · unfold pDays at hd; rw [hp] at hd; cases hd
          have HPD := hide hpd
          have HOO := hide ho
          generalize lvP (rst s k) = O at *
          clear ho hd hpd HO
          go_enter Tryz.func52, Tryz.ntmps52
          go_upto_region 14 with (first | (go_at_call_of 97 (Value.string ⟨#[121, 101, 115]⟩); with_reducible refine (takeV_no ⟨#[121, 101, 115]⟩ _ _ _ _ _ _ HY.out HS.out.vr).mono ?_; rintro e W1 ⟨rfl, hv, ht⟩; have HS1 := hide (HS.out.step ht hv); clear c0 c1 c2 c3 z1 z2 z3 hp d0 d1 d2 d3 d4 y0 y1 y2 y3 y4 hg hne hne2; clear HS ht hv; have HS := HS1; clear HS1; obtain ⟨⟨c0, c1, c2, c3, z1, z2, z3, hp⟩, ⟨d0, d1, d2, d3, d4, y0, y1, y2, y3, y4, hg⟩, hne, hne2⟩ := HS.out.cells) | (go_at_call_of 97 (Value.string ⟨#[110, 111]⟩); with_reducible refine (takeV_no ⟨#[110, 111]⟩ _ _ _ _ _ _ HN.out HS.out.vr).mono ?_; rintro e W1 ⟨rfl, hv, ht⟩; have HS1 := hide (HS.out.step ht hv); clear c0 c1 c2 c3 z1 z2 z3 hp d0 d1 d2 d3 d4 y0 y1 y2 y3 y4 hg hne hne2; clear HS ht hv; have HS := HS1; clear HS1; obtain ⟨⟨c0, c1, c2, c3, z1, z2, z3, hp⟩, ⟨d0, d1, d2, d3, d4, y0, y1, y2, y3, y4, hg⟩, hne, hne2⟩ := HS.out.cells) | (go_at_call_of 97 (Value.string ⟨#[34]⟩); with_reducible refine (takeV_no ⟨#[34]⟩ _ _ _ _ _ _ HQ.out HS.out.vr).mono ?_; rintro e W1 ⟨rfl, hv, ht⟩; have HS1 := hide (HS.out.step ht hv); clear c0 c1 c2 c3 z1 z2 z3 hp d0 d1 d2 d3 d4 y0 y1 y2 y3 y4 hg hne hne2; clear HS ht hv; have HS := HS1; clear HS1; obtain ⟨⟨c0, c1, c2, c3, z1, z2, z3, hp⟩, ⟨d0, d1, d2, d3, d4, y0, y1, y2, y3, y4, hg⟩, hne, hne2⟩ := HS.out.cells) | (go_at_call_of 99 (Value.string ⟨#[91, 91]⟩); with_reducible refine (hasV_b ⟨#[91, 91]⟩ false _ _ _ _ _ _ HB2.out HS.out.vr).mono ?_; rintro e w' ⟨rfl, n9, rfl⟩; have HS1 := hide (HS.out.drewN n9); clear c0 c1 c2 c3 z1 z2 z3 hp d0 d1 d2 d3 d4 y0 y1 y2 y3 y4 hg hne hne2; clear HS; have HS := HS1; clear HS1; obtain ⟨⟨c0, c1, c2, c3, z1, z2, z3, hp⟩, ⟨d0, d1, d2, d3, d4, y0, y1, y2, y3, y4, hg⟩, hne, hne2⟩ := HS.out.cells) | (go_at_call_of 97 (Value.string ⟨#[91]⟩); with_reducible refine (takeV_no ⟨#[91]⟩ _ _ _ _ _ _ HB.out HS.out.vr).mono ?_; rintro e W1 ⟨rfl, hv, ht⟩; have HS1 := hide (HS.out.step ht hv); clear c0 c1 c2 c3 z1 z2 z3 hp d0 d1 d2 d3 d4 y0 y1 y2 y3 y4 hg hne hne2; clear HS ht hv; have HS := HS1; clear HS1; obtain ⟨⟨c0, c1, c2, c3, z1, z2, z3, hp⟩, ⟨d0, d1, d2, d3, d4, y0, y1, y2, y3, y4, hg⟩, hne, hne2⟩ := HS.out.cells) | (go_at_call 102; with_reducible refine (daysV_none _ _ _ _ _ HPD.out HS.out.vr).mono ?_; rintro e W1 ⟨rfl, hv, ht⟩; have HS1 := hide (HS.out.step ht hv); clear c0 c1 c2 c3 z1 z2 z3 hp d0 d1 d2 d3 d4 y0 y1 y2 y3 y4 hg hne hne2; clear HS ht hv; have HS := HS1; clear HS1; obtain ⟨⟨c0, c1, c2, c3, z1, z2, z3, hp⟩, ⟨d0, d1, d2, d3, d4, y0, y1, y2, y3, y4, hg⟩, hne, hne2⟩ := HS.out.cells))
          have HNV := hide (fun n => numberV_any p k s far _ (fun w' ht => HP.out w' (((HS.out.alloc (.cells zVal 24)).drewN n).trn.trans ht)) ((HS.out.alloc (.cells zVal 24)).drewN n).vr)
          have hbr := bare_at s k
          have u0 : (0 : Int) ≤ (k : Int) := by omega
          cases h45 : Lib.hasPrefix (rst s k) [45] with
          | false =>
            rw [h45] at hbr
            have HO3 : Hid (O = pNum (rst s k)) := by have h9 := HOO.out; rw [hbr] at h9; exact h9
            have HH := hide (fun n => hasV_b ⟨#[45]⟩ false p k s false far _ h45 ((HS.out.alloc (.cells zVal 24)).drewN n).vr)
            clear h45 hbr HOO HPD
            go_quiet ((go_at_call 99; exact Calls.quiet_of (HH.out _)))
            go_wp2_with (go_at_call 103; (refine (HNV.out _).mono ?_); rintro e W2 ⟨x, hx, rfl, ht, k', b', f', hv, hk2, hgi⟩; have HX := hide (And.intro hx (And.intro hk2 hgi)); clear hx hk2 hgi; (try simp only [V.flat]); have HS1 := hide (((HS.out.alloc (.cells zVal 24)).drewN _).step ht hv); clear c0 c1 c2 c3 z1 z2 z3 hp d0 d1 d2 d3 d4 y0 y1 y2 y3 y4 hg hne hne2; clear HS HNV ht hv; have HS := HS1; clear HS1; obtain ⟨⟨c0, c1, c2, c3, z1, z2, z3, hp⟩, ⟨d0, d1, d2, d3, d4, y0, y1, y2, y3, y4, hg⟩, hne, hne2⟩ := HS.out.cells)
            refine bodyPost_ret (results_cell_row (P := Tryz.prog) (by rfl) _ _ _ 24 #[.int .i64 x.k, .int .i64 x.i, .int .i64 x.t, .string x.s, .slice none 0 0] (0, 0) _ rfl (HS.out.end _ _ _ _ _).1 Tryz.underlying24 rfl (by kernel_rfl)) rfl ?_
            exact ⟨x, HX.out.1, rfl, (HS.out.end _ _ _ _ _).2.2.2, _, _, _, (HS.out.end _ _ _ _ _).2.2.1, HX.out.2.1, by rw [HO3.out]; exact HX.out.2.2⟩
          | true =>
            rw [h45, Bool.true_and] at hbr
            have HH := hide (fun n => hasV_b ⟨#[45]⟩ true p k s false far _ h45 ((HS.out.alloc (.cells zVal 24)).drewN n).vr)
            have hk1 := rst_hp h45
            have hk2 : k + 1 ≤ s.size := by
              rcases hk1 with h1 | h1
              · exact h1
              · cases h1
            have HK1 := hide hk2
            have u1 : IntKind.i64.wrap ((k : Int) + 1) = (k : Int) + 1 := IntWalk.i64_in _ (by omega)
            have u2 : (0 : Int) ≤ (k : Int) + 1 := by omega
            have u3 : ((k : Int) + 1).toNat = k + 1 := by omega
            by_cases hlt : k + 1 < s.size
            · rw [dif_pos hlt] at hbr
              have u4 : (k : Int) + 1 < (s.size : Int) := by omega
              have u5 : ((k : Int) + 1 == (s.size : Int)) = false := beq_eq_false_iff_ne.2 (by omega)
              cases hd : dgB (s[k + 1]'hlt) with
              | true =>
                have t1 : decide (((s[k + 1]'hlt).toNat : Int) < 48) = false := decide_eq_false (by have := dgB_lo hd; omega)
                have t2 : decide ((57 : Int) < ((s[k + 1]'hlt).toNat : Int)) = false := decide_eq_false (by have := dgB_lo hd; omega)
                have HO3 : Hid (O = pNum (rst s k)) := by have h9 := HOO.out; rw [hbr, hd] at h9; exact h9
                clear h45 hbr hd hk1 hk2 HOO HPD
                go_quiet ((go_at_call 99; exact Calls.quiet_of (HH.out _)))
                go_wp2_with (go_at_call 103; (refine (HNV.out _).mono ?_); rintro e W2 ⟨x, hx, rfl, ht, k', b', f', hv, hk2, hgi⟩; have HX := hide (And.intro hx (And.intro hk2 hgi)); clear hx hk2 hgi; (try simp only [V.flat]); have HS1 := hide (((HS.out.alloc (.cells zVal 24)).drewN _).step ht hv); clear c0 c1 c2 c3 z1 z2 z3 hp d0 d1 d2 d3 d4 y0 y1 y2 y3 y4 hg hne hne2; clear HS HNV ht hv; have HS := HS1; clear HS1; obtain ⟨⟨c0, c1, c2, c3, z1, z2, z3, hp⟩, ⟨d0, d1, d2, d3, d4, y0, y1, y2, y3, y4, hg⟩, hne, hne2⟩ := HS.out.cells)
                refine bodyPost_ret (results_cell_row (P := Tryz.prog) (by rfl) _ _ _ 24 #[.int .i64 x.k, .int .i64 x.i, .int .i64 x.t, .string x.s, .slice none 0 0] (0, 0) _ rfl (HS.out.end _ _ _ _ _).1 Tryz.underlying24 rfl (by kernel_rfl)) rfl ?_
                exact ⟨x, HX.out.1, rfl, (HS.out.end _ _ _ _ _).2.2.2, _, _, _, (HS.out.end _ _ _ _ _).2.2.1, HX.out.2.1, by rw [HO3.out]; exact HX.out.2.2⟩
              | false =>
                have HO3 : Hid (O = some (vN, rst s (k + 1), false)) := by have h9 := HOO.out; rw [hbr, hd, rst_drop] at h9; exact h9
                by_cases hc : (s[k + 1]'hlt).toNat < 48
                · have t1 : decide (((s[k + 1]'hlt).toNat : Int) < 48) = true := decide_eq_true (by omega)
                  clear h45 hbr hd hk1 hk2 hc
                  clear HOO
                  go_quiet ((go_at_call 99; exact Calls.quiet_of (HH.out _)))
                  go_wp2
                  refine bodyPost_ret (results_cell_row (P := Tryz.prog) (by rfl) _ _ _ 24 #[.int .i64 0, .int .i64 0, .int .i64 0, .string ⟨#[]⟩, .slice none 0 0] (0, 0) _ rfl ((((HS.out.alloc (.cells zVal 24)).drewN _).at_ (k + 1) HK1.out).end _ _ _ _ _).1 Tryz.underlying24 rfl (by kernel_rfl)) rfl ?_
                  exact ⟨vN, rfl, rfl, ((((HS.out.alloc (.cells zVal 24)).drewN _).at_ (k + 1) HK1.out).end _ _ _ _ _).2.2.2, _, _, _, ((((HS.out.alloc (.cells zVal 24)).drewN _).at_ (k + 1) HK1.out).end _ _ _ _ _).2.2.1, Nat.le_succ k, .inr ⟨_, false, HO3.out, rfl, (Bool.or_false _).symm, rfl⟩⟩
                · have t1 : decide (((s[k + 1]'hlt).toNat : Int) < 48) = false := decide_eq_false (by omega)
                  have t2 : decide ((57 : Int) < ((s[k + 1]'hlt).toNat : Int)) = true := decide_eq_true (by have h9 := of_decide_eq_false hd; omega)
                  clear h45 hbr hd hk1 hk2 hc
                  clear HOO
                  go_quiet ((go_at_call 99; exact Calls.quiet_of (HH.out _)))
                  go_wp2
                  refine bodyPost_ret (results_cell_row (P := Tryz.prog) (by rfl) _ _ _ 24 #[.int .i64 0, .int .i64 0, .int .i64 0, .string ⟨#[]⟩, .slice none 0 0] (0, 0) _ rfl ((((HS.out.alloc (.cells zVal 24)).drewN _).at_ (k + 1) HK1.out).end _ _ _ _ _).1 Tryz.underlying24 rfl (by kernel_rfl)) rfl ?_
                  exact ⟨vN, rfl, rfl, ((((HS.out.alloc (.cells zVal 24)).drewN _).at_ (k + 1) HK1.out).end _ _ _ _ _).2.2.2, _, _, _, ((((HS.out.alloc (.cells zVal 24)).drewN _).at_ (k + 1) HK1.out).end _ _ _ _ _).2.2.1, Nat.le_succ k, .inr ⟨_, false, HO3.out, rfl, (Bool.or_false _).symm, rfl⟩⟩
            · rw [dif_neg hlt] at hbr
              have u5 : ((k : Int) + 1 == (s.size : Int)) = true := beq_iff_eq.2 (by omega)
              have HO3 : Hid (O = some (vN, rst s (k + 1), false)) := by have h9 := HOO.out; rw [hbr, rst_drop] at h9; exact h9
              clear h45 hbr hk1 hk2 hlt
              clear HOO
              go_quiet ((go_at_call 99; exact Calls.quiet_of (HH.out _)))
              go_wp2
              refine bodyPost_ret (results_cell_row (P := Tryz.prog) (by rfl) _ _ _ 24 #[.int .i64 0, .int .i64 0, .int .i64 0, .string ⟨#[]⟩, .slice none 0 0] (0, 0) _ rfl ((((HS.out.alloc (.cells zVal 24)).drewN _).at_ (k + 1) HK1.out).end _ _ _ _ _).1 Tryz.underlying24 rfl (by kernel_rfl)) rfl ?_
              exact ⟨vN, rfl, rfl, ((((HS.out.alloc (.cells zVal 24)).drewN _).at_ (k + 1) HK1.out).end _ _ _ _ _).2.2.2, _, _, _, ((((HS.out.alloc (.cells zVal 24)).drewN _).at_ (k + 1) HK1.out).end _ _ _ _ _).2.2.1, Nat.le_succ k, .inr ⟨_, false, HO3.out, rfl, (Bool.or_false _).symm, rfl⟩⟩


end Go.Proofs.YtdncmjlakmkfiaaGreatDoor
