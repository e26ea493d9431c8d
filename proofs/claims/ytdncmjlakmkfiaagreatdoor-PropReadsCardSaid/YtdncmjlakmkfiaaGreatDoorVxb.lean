/-
  WALK: the reference reads a string between marks.
-/
import Derived.Test.YtdncmjlakmkfiaaGreatDoorVwe
import Derived.Test.YtdncmjlakmkfiaaGreatDoorOwnB
import Derived.Test.YtdncmjlakmkfiaaGreatDoorOwnG
import Derived.Laws.BytesArg
import Derived.Test.YtdncmjlakmkfiaaGreatDoorVwh
import Derived.Lib.IndexAny
set_option linter.all false
namespace Go.Proofs.YtdncmjlakmkfiaaGreatDoor
open Go.RowKit

def bv (b : UInt8) : Value := .int .u8 b.toNat

theorem bytes_back {w : World} {base c : Nat} {A : Option Addr} {l : List UInt8} (h : OwnK 1 5 w base (.slice A l.length c) l.length (l.map bv)) : (convert 157 9 (.slice A l.length c)).run Tryz.prog w = .ok (.string (strOf l)) w := by
  obtain ⟨hl, A', c', hv, h1, h2, h3⟩ := h
  obtain ⟨e1, -, e3⟩ := Value.slice.inj hv
  subst e1 e3
  rcases h3 with ⟨rfl, h0, _⟩ | ⟨g, cur, rfl, hg, hb, h4, h5⟩
  · obtain rfl : l = [] := List.length_eq_zero_iff.1 h0
    exact run_convert_bytes_nil w 157 5 Tryz.underlying157 Tryz.underlying5 _ _ 9 Tryz.underlying9
  · refine (run_convert_bytes_arg w 157 5 Tryz.underlying157 Tryz.underlying5 g 0 l.length c (l.map fun b => (b.toNat : Int)) (by simp) (fun i hi => ?_) 9 Tryz.underlying9).trans ?_
    · rw [Nat.zero_add, cell_of_row w g i cur _ (0, 0) hb]
      have h6 : (l.map bv)[i]? = some (bv l[i]) := by simp [hi]
      rw [← h5, List.getElem?_take_of_lt (by omega)] at h6
      rw [← Array.getElem?_toList, h6]
      simp [bv, List.getD_eq_getElem?_getD, hi]
    · congr 2
      unfold strOfNums strOf
      rw [List.map_map]
      congr 2
      have : ((fun n : Int => UInt8.ofNat n.toNat) ∘ fun b : UInt8 => (b.toNat : Int)) = id := by
        funext b
        simp
      rw [this, List.map_id]

theorem info_u8 : (Tryz.prog.info? 5).map (fun i => (i.zero, i.size, i.bytes)) = some (some (.int .u8 0), 1, 1) := by kernel_rfl

/-- What readQuoted hands out. -/
def QuOut (O : Option (List UInt8 × List UInt8)) (w : World) (e : Ending) (w' : World) : Prop := Below w.heap.size w w' ∧ ((O = none ∧ e = .returned (.tuple #[.string ⟨#[]⟩, .string ⟨#[]⟩, .bool false])) ∨ ∃ (t : List UInt8) (rest : ByteArray), O = some (t, rest.data.toList) ∧ e = .returned (.tuple #[.string (strOf t), .string rest, .bool true]))

theorem own_snoc {w : World} {base : Nat} {A : Option Addr} {c : Nat} {acc : List UInt8} {b : UInt8} (h : OwnK 1 5 w base (.slice A (acc.length + 1) c) (acc.length + 1) (acc.map bv ++ [.int .u8 b.toNat])) : OwnK 1 5 w base (.slice A (acc ++ [b]).length c) (acc ++ [b]).length ((acc ++ [b]).map bv) := by
  rw [List.length_append, List.length_singleton, List.map_append]
  exact h

set_option maxHeartbeats 3200000 in
set_option maxRecDepth 100000 in
theorem readQuoted_any (s : ByteArray) (w : World) (hs : s.size ≤ 400000) (h0 : 1 ≤ s.size) :
    Calls Tryz.prog 59 #[.string s] w (QuOut (qt [] (rst s 1)) w) := by
  obtain ⟨iP, hiP, hzP0, hzP1, hzP2⟩ := info_parts info_u8
  have HIP := hide (And.intro hiP (And.intro hzP0 (And.intro hzP1 hzP2)))
  clear hiP hzP0 hzP1 hzP2
  generalize hOO : qt [] (rst s 1) = O
  have HOO := hide hOO
  clear hOO
  go_enter Tryz.func59, Tryz.ntmps59
  go_wp2
  go_loopw [5, 6] (fun v i wr => ∃ (q : Nat) (acc : List UInt8) (A : Option Addr) (c : Nat), i = .int .i64 q ∧ v = .slice A acc.length c ∧ Hid (OwnK 1 5 wr w.heap.size (.slice A acc.length c) acc.length (acc.map bv)) ∧ Hid (Below w.heap.size w wr) ∧ Hid (O = qt acc (rst s q)) ∧ Hid (acc.length ≤ q ∧ q ≤ s.size)) (fun _ i _ => s.size - (intOf i).toNat)
  case atStart => exact ⟨1, [], none, 0, rfl, rfl, hide OwnK.empty, hide (Below.refl _ _), hide HOO.out.symm, hide ⟨Nat.zero_le _, h0⟩⟩
  case round =>
    obtain ⟨q, acc, A, c, rfl, rfl, HO, HB, HQ, HLE⟩ := hrel
    have hqs := HLE.out.2
    have i0 : (0 : Int) ≤ (q : Int) := by omega
    have HBIG := hide (show (acc.length + 1) * iP.bytes ≤ 140737488355328 ∧ acc.length + 1 ≤ 140737488355328 by have := HIP.out.2.2.2; have := HLE.out; rw [HIP.out.2.2.2]; omega)
    by_cases hlt : q < s.size
    · have i1 : (q : Int) < (s.size : Int) := by omega
      by_cases h34 : (s[q]'hlt) = 34
      · have t34 : (((s[q]'hlt).toNat : Int) == 34) = true := (byte_is 34 (by decide)).trans (decide_eq_true h34)
        have HQ2 := hide (HQ.out.trans (qs_34 acc hlt h34))
        have hcv : ∀ n, (convert 157 9 (.slice A acc.length c)).run Tryz.prog (wr.drewN n) = .ok (.string (strOf acc)) (wr.drewN n) := fun n => bytes_back (ownK_drewN HO.out n)
        have i2 : IntKind.i64.wrap ((q : Int) + 1) = (q : Int) + 1 := IntWalk.i64_in _ (by omega)
        have i3 : (0 : Int) ≤ (q : Int) + 1 := by omega
        have i4 : (q : Int) + 1 ≤ (s.size : Int) := by omega
        have i5 : ((q : Int) + 1).toNat = q + 1 := by omega
        clear h34 hqs
        go_wp2
        go_quiet (fail)
        go_wp2
        (try simp only [Exit.inBlock, Exit.then])
        go_returns
        exact ⟨bl_drewN HB.out _, .inr ⟨acc, s.extract (q + 1) s.size, by rw [HQ2.out, rst_ext], rfl⟩⟩
      · have t34 : (((s[q]'hlt).toNat : Int) == 34) = false := (byte_is 34 (by decide)).trans (decide_eq_false h34)
        have i2 : IntKind.i64.wrap ((q : Int) + 1) = (q : Int) + 1 := IntWalk.i64_in _ (by omega)
        by_cases h92 : (s[q]'hlt) = 92
        · have t92 : (((s[q]'hlt).toNat : Int) == 92) = true := (byte_is 92 (by decide)).trans (decide_eq_true h92)
          by_cases hq1 : q + 1 < s.size
          · have j0 : (0 : Int) ≤ (q : Int) + 1 := by omega
            have j1 : (q : Int) + 1 < (s.size : Int) := by omega
            have j2 : ((q : Int) + 1).toNat = q + 1 := by omega
            have HLE2 := hide (show (acc ++ [(s[q + 1]'hq1)]).length ≤ q + 1 + 1 ∧ q + 1 + 1 ≤ s.size by rw [List.length_append, List.length_singleton]; have := HLE.out; omega)
            by_cases hd34 : (s[q + 1]'hq1) = 34
            · have k34 : (((s[q + 1]'hq1).toNat : Int) == 34) = true := (byte_is 34 (by decide)).trans (decide_eq_true hd34)
              have HQ2 := hide (HQ.out.trans (qs_esc acc hlt hq1 h92 (.inl hd34)))
              clear h34 h92 hqs hd34
              go_wp2_with (at_builtin; refine wpList_append_b rfl (.tmp 58) (.tmp 62) rfl rfl Tryz.underlying157 HIP.out.1 HIP.out.2.1 HIP.out.2.2.1 (by decide) rfl (by have := HIP.out.2.2.2; omega) w.heap.size acc.length (.slice A acc.length c) (acc.map bv) [.int .u8 (s[q + 1]'hq1).toNat] _ rfl (by repeat (first | with_reducible exact HO.out | with_reducible refine ownK_alloc ?_ _ | with_reducible refine ownK_plus ?_ _ _ | with_reducible refine ownK_drew ?_ | with_reducible refine ownK_drewN ?_ _)) rfl (by intro u hu; simp only [List.mem_cons, List.not_mem_nil, or_false] at hu; rcases hu with rfl; rfl) rfl (newN_cells (cs := [.int .u8 (s[q + 1]'hq1).toNat]) (by simp only [World.size_alloc, plus_size, World.drew])) HBIG.out (by simp only [World.size_alloc, plus_size, World.drew]; have := HB.out.size; omega) ?_; intro v' w1 hown1 hgr1 hfr1; obtain ⟨A3, c3, rfl, _⟩ := ownK_form hown1; have HB1 := hide ((HB.out.trans (Below.mono (by repeat (first | exact Below.refl _ _ | with_reducible refine bl_plus ?_ | with_reducible refine bl_alloc ?_ _ | with_reducible refine bl_drew ?_ | with_reducible refine bl_drewN ?_ _)) HB.out.size)).grown hgr1 (by simp only [World.size_alloc, plus_size, World.drew]; have := HB.out.size; omega) (fun k hk => (HO.out.lt k hk).1)); have HO1 := hide (own_snoc hown1); clear hown1 hgr1 hfr1)
              go_roundw
              case rel => exact ⟨q + 1 + 1, _, A3, c3, by go_num, by rw [List.length_append, List.length_singleton], HO1, HB1, HQ2, HLE2⟩
              case measure => simp [intOf]; omega
            · have k34 : (((s[q + 1]'hq1).toNat : Int) == 34) = false := (byte_is 34 (by decide)).trans (decide_eq_false hd34)
              by_cases hd92 : (s[q + 1]'hq1) = 92
              · have k92 : (((s[q + 1]'hq1).toNat : Int) == 92) = true := (byte_is 92 (by decide)).trans (decide_eq_true hd92)
                have HQ2 := hide (HQ.out.trans (qs_esc acc hlt hq1 h92 (.inr hd92)))
                clear h34 h92 hqs hd34 hd92
                go_wp2_with (at_builtin; refine wpList_append_b rfl (.tmp 58) (.tmp 62) rfl rfl Tryz.underlying157 HIP.out.1 HIP.out.2.1 HIP.out.2.2.1 (by decide) rfl (by have := HIP.out.2.2.2; omega) w.heap.size acc.length (.slice A acc.length c) (acc.map bv) [.int .u8 (s[q + 1]'hq1).toNat] _ rfl (by repeat (first | with_reducible exact HO.out | with_reducible refine ownK_alloc ?_ _ | with_reducible refine ownK_plus ?_ _ _ | with_reducible refine ownK_drew ?_ | with_reducible refine ownK_drewN ?_ _)) rfl (by intro u hu; simp only [List.mem_cons, List.not_mem_nil, or_false] at hu; rcases hu with rfl; rfl) rfl (newN_cells (cs := [.int .u8 (s[q + 1]'hq1).toNat]) (by simp only [World.size_alloc, plus_size, World.drew])) HBIG.out (by simp only [World.size_alloc, plus_size, World.drew]; have := HB.out.size; omega) ?_; intro v' w1 hown1 hgr1 hfr1; obtain ⟨A3, c3, rfl, _⟩ := ownK_form hown1; have HB1 := hide ((HB.out.trans (Below.mono (by repeat (first | exact Below.refl _ _ | with_reducible refine bl_plus ?_ | with_reducible refine bl_alloc ?_ _ | with_reducible refine bl_drew ?_ | with_reducible refine bl_drewN ?_ _)) HB.out.size)).grown hgr1 (by simp only [World.size_alloc, plus_size, World.drew]; have := HB.out.size; omega) (fun k hk => (HO.out.lt k hk).1)); have HO1 := hide (own_snoc hown1); clear hown1 hgr1 hfr1)
                go_roundw
                case rel => exact ⟨q + 1 + 1, _, A3, c3, by go_num, by rw [List.length_append, List.length_singleton], HO1, HB1, HQ2, HLE2⟩
                case measure => simp [intOf]; omega
              · have k92 : (((s[q + 1]'hq1).toNat : Int) == 92) = false := (byte_is 92 (by decide)).trans (decide_eq_false hd92)
                have HO2 := hide (HQ.out.trans (qs_bad acc hlt h92 (fun _ => ⟨hd34, hd92⟩)))
                clear h34 h92 hqs hd34 hd92
                go_wp2
                (try simp only [Exit.inBlock, Exit.then])
                go_returns
                exact ⟨HB.out, .inl ⟨HO2.out, rfl⟩⟩
          · have j1 : ¬ (q : Int) + 1 < (s.size : Int) := by omega
            have j3 : decide ((q : Int) + 1 < (s.size : Int)) = false := decide_eq_false j1
            have HO2 := hide (HQ.out.trans (qs_bad acc hlt h92 (fun h => absurd h hq1)))
            clear h34 h92 hqs
            go_wp2
            (try simp only [Exit.inBlock, Exit.then])
            go_returns
            exact ⟨HB.out, .inl ⟨HO2.out, rfl⟩⟩
        · have t92 : (((s[q]'hlt).toNat : Int) == 92) = false := (byte_is 92 (by decide)).trans (decide_eq_false h92)
          have HQ2 := hide (HQ.out.trans (qs_else acc hlt h34 h92))
          have HLE2 := hide (show (acc ++ [(s[q]'hlt)]).length ≤ q + 1 ∧ q + 1 ≤ s.size by rw [List.length_append, List.length_singleton]; have := HLE.out; omega)
          clear h34 h92 hqs
          go_wp2_with (at_builtin; refine wpList_append_b rfl (.tmp 13) (.tmp 17) rfl rfl Tryz.underlying157 HIP.out.1 HIP.out.2.1 HIP.out.2.2.1 (by decide) rfl (by have := HIP.out.2.2.2; omega) w.heap.size acc.length (.slice A acc.length c) (acc.map bv) [.int .u8 (s[q]'hlt).toNat] _ rfl (by repeat (first | with_reducible exact HO.out | with_reducible refine ownK_alloc ?_ _ | with_reducible refine ownK_plus ?_ _ _ | with_reducible refine ownK_drew ?_ | with_reducible refine ownK_drewN ?_ _)) rfl (by intro u hu; simp only [List.mem_cons, List.not_mem_nil, or_false] at hu; rcases hu with rfl; rfl) rfl (newN_cells (cs := [.int .u8 (s[q]'hlt).toNat]) (by simp only [World.size_alloc, plus_size, World.drew])) HBIG.out (by simp only [World.size_alloc, plus_size, World.drew]; have := HB.out.size; omega) ?_; intro v' w1 hown1 hgr1 hfr1; obtain ⟨A3, c3, rfl, _⟩ := ownK_form hown1; have HB1 := hide ((HB.out.trans (Below.mono (by repeat (first | exact Below.refl _ _ | with_reducible refine bl_plus ?_ | with_reducible refine bl_alloc ?_ _ | with_reducible refine bl_drew ?_ | with_reducible refine bl_drewN ?_ _)) HB.out.size)).grown hgr1 (by simp only [World.size_alloc, plus_size, World.drew]; have := HB.out.size; omega) (fun k hk => (HO.out.lt k hk).1)); have HO1 := hide (own_snoc hown1); clear hown1 hgr1 hfr1)
          go_roundw
          case rel => exact ⟨q + 1, _, A3, c3, by go_num, by rw [List.length_append, List.length_singleton], HO1, HB1, HQ2, HLE2⟩
          case measure => simp [intOf]; omega
    · have i1 : decide (q < s.size) = false := decide_eq_false hlt
      have HO2 := hide (HQ.out.trans (by rw [rst_endQ (by omega), qt_nil]))
      clear hqs
      go_wp2
      (try simp only [Exit.inBlock, Exit.then])
      go_returns
      exact ⟨HB.out, .inl ⟨HO2.out, rfl⟩⟩


end Go.Proofs.YtdncmjlakmkfiaaGreatDoor
/-
  WALKS: the reference reads a string, a link, a word.
-/
namespace Go.Proofs.YtdncmjlakmkfiaaGreatDoor
open Go.RowKit

theorem results_three {fn : Func} {p u v : Tmp} {ty : TypeId} (h : fn.results = #[.cell p ty, .tmp u, .tmp v]) (tmps : Array Value) (P : Program) (w : World) :
    (results fn tmps).run P w =
      ((asAddr (tmps.getD p undef)).run P w).andThen fun a w₁ => ((loadVar ty a).run P w₁).andThen fun x w₂ => .ok (.tuple #[x, tmps.getD u undef, tmps.getD v undef]) w₂ := by
  simp only [results, h]
  simp [Sem.run_bind, Result.andThen]

theorem res_cell3 {P : Program} {fn : Func} {p u v : Tmp} {ty : TypeId} (h : fn.results = #[.cell p ty, .tmp u, .tmp v]) (tmps : Array Value) (w : World) (g : Nat) (t : TypeId) (cs : Array Value) (fr : Nat × Nat) (d : TypeDesc)
    (hp : tmps.getD p undef = .pointer (some ⟨g, 0, none⟩)) (hg : w.heap[g]? = some (.cells cs t fr)) (hu : P.underlying ty = some d) (hd : (match d with | .struct _ | .array _ _ => true | _ => false) = true) (hi : (P.info? ty).map (·.size) = some cs.size) :
    (results fn tmps).run P w = .ok (.tuple #[.agg cs, tmps.getD u undef, tmps.getD v undef]) w := by
  rw [results_three h, hp]
  simp [asAddr, Result.andThen, run_loadVar_row w g t ty cs fr d hg hu hd hi]

/-- What the reference's reading comes to: the value, what follows, the code. -/
def RfIs (O : Got) (x : V) (rest : ByteArray) (code : Int) : Prop := (O = none ∧ code = 8) ∨ ∃ f : Bool, O = some (x, rest.data.toList, f) ∧ code = if f = true then 2 else 0

/-- .. of a value without items. -/
def RfLeaf (s : ByteArray) (O : Got) (w : World) (e : Ending) (w' : World) : Prop :=
  Below w.heap.size w w' ∧ ∃ (x : V) (rest : ByteArray) (code : Int), x.l = [] ∧ e = .returned (.tuple #[x.flat, .string rest, .int .i64 code]) ∧ rest.size ≤ s.size ∧ RfIs O x rest code

theorem indexAny_tw : ∀ l : List UInt8, (Lib.indexAny l [44, 93] = -1 ∧ (l.takeWhile nsep).length = l.length) ∨ Lib.indexAny l [44, 93] = (l.takeWhile nsep).length
  | [] => .inl ⟨rfl, rfl⟩
  | c :: l => by
    unfold Lib.indexAny
    by_cases h : nsep c = true
    · have hc : ([44, 93] : List UInt8).contains c = false := by
        unfold nsep at h
        simp only [Bool.not_eq_true', Bool.or_eq_false_iff, beq_eq_false_iff_ne] at h
        simp [h.1, h.2]
      rw [hc, List.takeWhile_cons_of_pos h]
      simp only [Bool.false_eq_true, if_false, List.length_cons]
      rcases indexAny_tw l with ⟨h1, h2⟩ | h1
      · rw [h1, h2]; exact .inl ⟨rfl, rfl⟩
      · rw [h1]
        refine .inr ?_
        rw [if_neg (by rw [beq_iff_eq]; omega)]
        simp
    · have hc : ([44, 93] : List UInt8).contains c = true := by
        rcases sep_cases (by simpa using h) with rfl | rfl <;> rfl
      rw [hc, List.takeWhile_cons_of_neg h]
      exact .inr rfl

theorem QuOut.no {w w' : World} {e : Ending} (h : QuOut none w e w') : e = .returned (.tuple #[.string ⟨#[]⟩, .string ⟨#[]⟩, .bool false]) ∧ Below w.heap.size w w' := by
  obtain ⟨hb, ⟨-, he⟩ | ⟨_, _, h, -⟩⟩ := h
  · exact ⟨he, hb⟩
  · cases h

theorem QuOut.yes {w w' : World} {e : Ending} {t r : List UInt8} (h : QuOut (some (t, r)) w e w') : ∃ rest : ByteArray, rest.data.toList = r ∧ e = .returned (.tuple #[.string (strOf t), .string rest, .bool true]) ∧ Below w.heap.size w w' := by
  obtain ⟨hb, ⟨h, -⟩ | ⟨t', rest, h, he⟩⟩ := h
  · cases h
  · injection h with h
    injection h with h1 h2
    subst h1 h2
    exact ⟨rest, rfl, he, hb⟩

theorem qt_len : ∀ (n : Nat) (acc l t r : List UInt8), l.length ≤ n → qt acc l = some (t, r) → r.length ≤ l.length
  | _, acc, [], t, r, _, h => by rw [qt_nil] at h; cases h
  | 0, acc, c :: l, t, r, hn, _ => absurd hn (by simp)
  | n + 1, acc, c :: l, t, r, hn, h => by
    simp only [List.length_cons] at hn ⊢
    by_cases h34 : c = 34
    · subst h34
      rw [qt_34] at h
      cases h
      omega
    · by_cases h92 : c = 92
      · subst h92
        by_cases hd : ∃ d m, l = d :: m ∧ (d = 34 ∨ d = 92)
        · obtain ⟨d, m, rfl, hd⟩ := hd
          rw [qt_esc _ _ _ hd] at h
          have := qt_len n _ _ _ _ (by simp only [List.length_cons] at hn; omega) h
          simp only [List.length_cons]
          omega
        · rw [qt_bad _ _ (fun d m e => ⟨fun e2 => hd ⟨d, m, e, .inl e2⟩, fun e2 => hd ⟨d, m, e, .inr e2⟩⟩)] at h
          cases h
      · rw [qt_else _ _ _ h34 h92] at h
        have := qt_len n _ _ _ _ (by omega) h
        omega

theorem hpS_any (s q : ByteArray) (b : Bool) (w : World) (h : Lib.hasPrefix s.data.toList q.data.toList = b) :
    Calls Tryz.prog 50 #[.string s, .string q] w fun e w' => e = .returned (.bool b) ∧ w' = w := by
  have := Tryz.hasPrefix_any s q w
  rwa [h] at this

set_option maxHeartbeats 800000 in
theorem badR_any (w : World) : Calls Tryz.prog 58 #[] w fun e w' => e = .returned (.tuple #[.agg #[.int .i64 0, .int .i64 0, .int .i64 0, .string ⟨#[]⟩, .slice none 0 0], .string ⟨#[]⟩, .int .i64 8]) ∧ Below w.heap.size w w' := by
  go_enter Tryz.func58, Tryz.ntmps58
  go_wp2
  exact bodyPost_ret (v := .tuple #[.agg #[.int .i64 0, .int .i64 0, .int .i64 0, .string ⟨#[]⟩, .slice none 0 0], .string ⟨#[]⟩, .int .i64 8]) (by simp [results, Tryz.results58, go_sem]) rfl ⟨rfl, (by repeat (first | exact Below.refl _ _ | refine bl_plus ?_ | refine bl_alloc ?_ _ | refine bl_drew ?_ | refine bl_drewN ?_ _))⟩

set_option maxHeartbeats 3200000 in
set_option maxRecDepth 100000 in
theorem readItem_quote (s : ByteArray) (it : Bool) (w : World) (hs : s.size ≤ 400000) (hq : Lib.hasPrefix s.data.toList [34] = true) :
    Calls Tryz.prog 17 #[.string s, .bool it] w (RfLeaf s (pQ (s.data.toList.drop 1)) w) := by
  have h0 : 1 ≤ s.size := by
    obtain ⟨r, hr⟩ := hp_iff.1 hq
    have := congrArg List.length hr
    rw [size_list, List.length_append, List.length_singleton] at this
    omega
  have HQ := hide (fun W => readQuoted_any s W hs h0)
  rw [show rst s 1 = s.data.toList.drop 1 from rfl] at HQ
  have HA := hide (fun W => hpS_any s ⟨#[34]⟩ true W hq)
  have HS := hide (Sr.start (w := w))
  obtain ⟨d0, d1, d2, d3, d4, y0, y1, y2, y3, y4, hg⟩ := HS.out.cells
  clear hq
  unfold pQ
  rcases hO : qt [] (s.data.toList.drop 1) with _ | ⟨t, r⟩
  · rw [hO] at HQ
    clear hO
    go_enter Tryz.func17, Tryz.ntmps17
    go_wp2_with (first | (go_at_call_of 50 (Value.string ⟨#[34]⟩); (refine (HA.out _).mono ?_); rintro e w' ⟨rfl, hw⟩; subst hw) | (go_at_call 59; (refine (HQ.out _).mono ?_); intro e W1 hqo; obtain ⟨rfl, hbl⟩ := hqo.no; have HS1 := hide (HS.out.below hbl); clear d0 d1 d2 d3 d4 y0 y1 y2 y3 y4 hg; clear HS; have HS := HS1; clear HS1; obtain ⟨d0, d1, d2, d3, d4, y0, y1, y2, y3, y4, hg⟩ := HS.out.cells; clear hbl hqo) | (go_at_call 58; (refine (badR_any _).mono ?_); rintro e W9 ⟨rfl, hbl⟩; have HS1 := hide (HS.out.below hbl); clear d0 d1 d2 d3 d4 y0 y1 y2 y3 y4 hg; clear HS; have HS := HS1; clear HS1; obtain ⟨d0, d1, d2, d3, d4, y0, y1, y2, y3, y4, hg⟩ := HS.out.cells; clear hbl))
    refine bodyPost_ret (res_cell3 (P := Tryz.prog) (fn := Tryz.f17) (p := 4) (u := 5) (v := 6) rfl _ _ _ 24 #[.int .i64 0, .int .i64 0, .int .i64 0, .string ⟨#[]⟩, .slice none 0 0] (0, 0) _ rfl (HS.out.end _ _ _ _ _).1 Tryz.underlying24 rfl (by kernel_rfl)) rfl ?_
    exact ⟨(HS.out.end _ _ _ _ _).2, vN, ⟨#[]⟩, 8, rfl, rfl, Nat.zero_le _, .inl ⟨rfl, rfl⟩⟩
  · rw [hO] at HQ
    have hlen : r.length ≤ s.size := by have := qt_len _ _ _ _ _ (Nat.le_refl _) hO; rw [List.length_drop, size_list] at this; omega
    have HLN := hide hlen
    clear hO hlen
    go_enter Tryz.func17, Tryz.ntmps17
    go_wp2_with (first | (go_at_call_of 50 (Value.string ⟨#[34]⟩); (refine (HA.out _).mono ?_); rintro e w' ⟨rfl, hw⟩; subst hw) | (go_at_call 59; (refine (HQ.out _).mono ?_); intro e W1 hqo; obtain ⟨rest, hre, rfl, hbl⟩ := hqo.yes; have HE := hide hre; have HS1 := hide (HS.out.below hbl); clear d0 d1 d2 d3 d4 y0 y1 y2 y3 y4 hg; clear HS; have HS := HS1; clear HS1; obtain ⟨d0, d1, d2, d3, d4, y0, y1, y2, y3, y4, hg⟩ := HS.out.cells; clear hbl hqo hre))
    refine bodyPost_ret (res_cell3 (P := Tryz.prog) (fn := Tryz.f17) (p := 4) (u := 5) (v := 6) rfl _ _ _ 24 #[.int .i64 3, .int .i64 0, .int .i64 0, .string (strOf t), .slice none 0 0] (0, 0) _ rfl (HS.out.end _ _ _ _ _).1 Tryz.underlying24 rfl (by kernel_rfl)) rfl ?_
    have hsz : rest.size ≤ s.size := by rw [← size_list rest, HE.out]; exact HLN.out
    exact ⟨(HS.out.end _ _ _ _ _).2, vStr t, rest, 0, rfl, rfl, hsz, .inr ⟨false, by rw [HE.out], rfl⟩⟩


end Go.Proofs.YtdncmjlakmkfiaaGreatDoor
