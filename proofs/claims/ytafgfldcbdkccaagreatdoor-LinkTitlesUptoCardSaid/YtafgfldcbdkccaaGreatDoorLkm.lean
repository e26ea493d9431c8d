/-
  WALKS: the reference's open, PageFor, NamesFor.
-/
import Derived.Test.YtafgfldcbdkccaaGreatDoorLkk
import Derived.Test.YtafgfldcbdkccaaGreatDoorTbi
set_option linter.all false
namespace Go.Proofs.YtafgfldcbdkccaaGreatDoor
open Go.RowKit Go.Lib Go.Maps Go.WideElems Go.WideMaps Go.Shelf

theorem results_cell_row_tmp {P : Program} {fn : Func} {p u : Tmp} {ty : TypeId} (h : fn.results = #[.cell p ty, .tmp u]) (tmps : Array Value) (w : World) (g : Nat) (t : TypeId) (cs : Array Value) (fr : Nat × Nat) (d : TypeDesc)
    (hp : tmps.getD p undef = .pointer (some ⟨g, 0, none⟩)) (hg : w.heap[g]? = some (.cells cs t fr))
    (hu : P.underlying ty = some d) (hd : (match d with | .struct _ | .array _ _ => true | _ => false) = true) (hi : (P.info? ty).map (·.size) = some cs.size) :
    (results fn tmps).run P w = .ok (.tuple #[.agg cs, tmps.getD u undef]) w := by
  have hp' : tmps[p]?.getD undef = .pointer (some ⟨g, 0, none⟩) := by simpa using hp
  simp [results, h, hp', asAddr, Sem.run_bind, Result.andThen, run_loadVar_row w g t ty cs fr d hg hu hd hi]

def OpOut (l : List BK) (A : Option Addr) (c : Nat) (w : World) (e : Ending) (w' : World) : Prop := e = .returned (.tuple #[.agg #[.slice A l.length c], .int .i64 (baseErr l)]) ∧ Below w.heap.size w w'

set_option maxHeartbeats 1600000 in
set_option maxRecDepth 100000 in
theorem openBook_any (l : List BK) (A : Option Addr) (c : Nat) (w : World) (hA : BsAt w A l) (hk : ∀ b ∈ l, ∀ k ∈ b.kids, In64 k) (hmt : MaxTold w) :
    Calls Tryz.prog 13 #[.slice A l.length c] w (OpOut l A c w) := by
  have HC := hide (fun W (hb : Below w.heap.size w W) => baseError_any l A c W (hA.below hb))
  have HPO : Hid (∀ w', Below w.heap.size w w' → OpOut l A c w (.returned (.tuple #[.agg #[.slice A l.length c], .int .i64 (baseErr l)])) w') := hide fun w' h => ⟨rfl, h⟩
  generalize OpOut l A c w = PO at *
  generalize baseErr l = E at *
  clear hA hk hmt
  go_enter Tryz.func13, Tryz.ntmps13
  go_upto_region 1 with (fail)
  have HN := hide (Blk.new w 37 #[.slice none 0 0])
  have HBA := hide (bl_alloc (Below.refl w.heap.size w) (.cells #[.slice none 0 0] 37))
  have HGE := hide (Nat.le_refl w.heap.size)
  generalize w.alloc (.cells #[.slice none 0 0] 37) = wa at *
  go_wp2_with ((go_at_call 32; refine (HC.out _ HBA.out).mono ?_; rintro e w2 ⟨rfl, hbl⟩; have HB2 := hide (below_chainT HBA.out hbl); have HN2 := hide (HN.out.below hbl HN.out.lt); clear hbl; have hl2 := HN2.out.lt; have hc2 : w2.cell? ⟨w.heap.size, 0, none⟩ = some (.slice none 0 0) := HN2.out.cell 0; have hf2 : w2.frozen? ⟨w.heap.size, 0, none⟩ = false := HN2.out.frozen 0))
  have H9 := hide (HN2.out.set_ 0 (.slice A l.length c))
  refine bodyPost_ret (results_cell_row_tmp (P := Tryz.prog) (by rfl) _ _ w.heap.size 37 #[.slice A l.length c] (0, 0) _ rfl H9.out Tryz.underlying37 rfl (by kernel_rfl)) rfl ?_
  exact HPO.out _ (HB2.out.setCell (p := ⟨w.heap.size, 0, none⟩) (Nat.le_refl _) _)


/-! ### PageFor -/
theorem leadL_pos {l : List BK} (R : Right l) (f : List UInt8) : 0 ≤ leadL l f := by
  have hp : ∀ p ∈ sortZ (pgs l), 0 ≤ p := fun p hp => by
    obtain ⟨m, hm, hid, -⟩ := R.sorted_at hp
    rw [← hid]
    exact (R.good.ids.bound hm).1
  unfold leadL
  split
  · exact hp _ (List.mem_of_find?_eq_some ‹_›)
  · cases h : (sortZ (pgs l)).find? (isAls l f) with
    | none => exact Int.le_refl _
    | some p => exact hp _ (List.mem_of_find?_eq_some h)

set_option maxHeartbeats 1600000 in
set_option maxRecDepth 100000 in
theorem pageFor_any (l : List BK) (A : Option Addr) (c : Nat) (w : World) (hA : BsAt w A l) (hk : ∀ b ∈ l, ∀ k ∈ b.kids, In64 k) (hmt : MaxTold w) (s : ByteArray) (hs : s.size ≤ 1100000) (r : Int × Int) (hr : r = if baseErr l ≠ 0 then (0, baseErr l) else if leadL l (foldL s.data.toList) = 0 then (0, 7) else (leadL l (foldL s.data.toList), 0)) :
    Calls Tryz.prog 5 #[.slice A l.length c, .string s] w (PgOut r w) := by
  have HPO : Hid (∀ (a b : Int) w', r = (a, b) → Below w.heap.size w w' → PgOut r w (.returned (.tuple #[.int .i64 a, .int .i64 b])) w') := hide fun a b w' h1 h2 => by subst h1; exact ⟨rfl, h2⟩
  generalize PgOut r w = PO at *
  have HOP := hide (openBook_any l A c w hA hk hmt)
  unfold OpOut at HOP
  by_cases he : baseErr l = 0
  · have R := right_of he
    have HPG := hide (fun W (hb : Below w.heap.size w W) => bookPage_any l A c w W ⟨R, hA, hmt, hb⟩ s hs)
    have hge := leadL_pos R (foldL s.data.toList)
    rw [if_neg (fun h => h he)] at hr
    rw [he] at HOP
    clear R he hA hk hmt
    by_cases h0 : leadL l (foldL s.data.toList) = 0
    · rw [if_pos h0] at hr
      rw [h0] at HPG
      have HF := hide (fun w' => HPO.out 0 7 w' hr)
      clear h0 HPO hr hge
      go_enter Tryz.func5, Tryz.ntmps5
      go_wp2_with (first
        | (go_at_call 13; refine HOP.out.mono ?_; rintro e w1 ⟨rfl, hb1⟩)
        | (go_at_call 14; refine (HPG.out _ (by first | exact hb1 | exact bl_alloc hb1 _)).mono ?_; rintro e w2 ⟨rfl, hb2⟩))
      exact HF.out _ (below_chainT (by first | exact hb1 | exact bl_alloc hb1 _) hb2)
    · rw [if_neg h0] at hr
      have HF := hide (fun w' => HPO.out (leadL l (foldL s.data.toList)) 0 w' hr)
      clear HPO hr
      have hlt : 0 < leadL l (foldL s.data.toList) := by omega
      clear h0
      generalize leadL l (foldL s.data.toList) = L at *
      go_enter Tryz.func5, Tryz.ntmps5
      go_wp2_with (first
        | (go_at_call 13; refine HOP.out.mono ?_; rintro e w1 ⟨rfl, hb1⟩)
        | (go_at_call 14; refine (HPG.out _ (by first | exact hb1 | exact bl_alloc hb1 _)).mono ?_; rintro e w2 ⟨rfl, hb2⟩))
      exact HF.out _ (below_chainT (by first | exact hb1 | exact bl_alloc hb1 _) hb2)
  · rw [if_pos he] at hr
    have HF := hide (fun w' => HPO.out 0 (baseErr l) w' hr)
    have e1 : (baseErr l != 0) = true := bne_iff_ne.2 he
    clear HPO hr he hA hk hmt
    generalize baseErr l = E at *
    go_enter Tryz.func5, Tryz.ntmps5
    go_wp2_with (go_at_call 13; refine HOP.out.mono ?_; rintro e w1 ⟨rfl, hb1⟩)
    exact HF.out _ (bl_alloc hb1 _)

/-! ### NamesFor -/
set_option maxHeartbeats 3200000 in
set_option maxRecDepth 100000 in
theorem namesFor_any (l : List BK) (A : Option Addr) (c : Nat) (w : World) (hA : BsAt w A l) (hk : ∀ b ∈ l, ∀ k ∈ b.kids, In64 k) (hmt : MaxTold w) (k : Int) :
    Calls Tryz.prog 7 #[.slice A l.length c, .int .i64 k] w (NmOut (nmRes l k) w) := by
  have HPO : Hid (∀ (A : Option Addr) (c : Nat) (ns : List ByteArray) (e : Int) w', nmRes l k = (ns, e) → ns.length ≤ c → SAt w' A ns → Below w.heap.size w w' → NmOut (nmRes l k) w (.returned (.tuple #[.slice A ns.length c, .int .i64 e])) w') := hide fun A c ns e w' h1 h2 h3 h4 => by rw [h1]; exact ⟨A, c, rfl, h2, h3, h4⟩
  have HOP := hide (openBook_any l A c w hA hk hmt)
  unfold OpOut at HOP
  by_cases he : baseErr l = 0
  · have R := right_of he
    have HIP := hide (fun W (hb : Below w.heap.size w W) => bookIsPage_any l A c w W ⟨R, hA, hmt, hb⟩ k)
    rw [he] at HOP
    cases hp : isPg l k with
    | true =>
      have hr : nmRes l k = (namesOf l k, 0) := by unfold nmRes; rw [if_neg (fun h => h he), if_pos hp]
      have hm : k ∈ pgs l := of_decide_eq_true hp
      obtain ⟨m, hml, -, hid, -⟩ := (right_of he).pgs_mem hm
      have HNM := hide (fun W (hb : Below w.heap.size w W) => by have := bookNames_any l A c w W ⟨R, hA, hmt, hb⟩ hml; rwa [hid] at this : ∀ W (hb : Below w.heap.size w W), Calls Tryz.prog 18 #[.agg #[.slice A l.length c], .int .i64 k] W (AlOut (namesOf l k) W))
      unfold AlOut at HNM
      have HF := hide (fun A c w' => HPO.out A c (namesOf l k) 0 w' hr)
      rw [hp] at HIP
      clear HPO hr hm hml hid he hA hk hmt R hp
      generalize namesOf l k = ns at *
      generalize NmOut (nmRes l k) w = PO at *
      go_enter Tryz.func7, Tryz.ntmps7
      go_wp2_with (first
        | (go_at_call 13; refine HOP.out.mono ?_; rintro e w1 ⟨rfl, hb1⟩)
        | (go_at_call 17; refine (HIP.out _ (by first | exact hb1 | exact bl_alloc hb1 _)).mono ?_; rintro e w2 ⟨rfl, hb2⟩; have hb3 := below_chainT (by first | exact hb1 | exact bl_alloc hb1 _) hb2; have hq2 : w2.cell? ⟨w1.heap.size, 0, none⟩ = some (.slice A l.length c) := ((Blk.new w1 37 #[.slice A l.length c]).below hb2 (Blk.new w1 _ _).lt).cell 0; have hl2 : w1.heap.size < w2.heap.size := ((Blk.new w1 37 #[.slice A l.length c]).below hb2 (Blk.new w1 _ _).lt).lt)
        | (go_at_call 18; refine (HNM.out _ hb3).mono ?_; rintro e w4 ⟨A9, c9, rfl, hrow, hbl⟩; have HRW := hide (sAt_own hrow); have HB2 := hide (below_chainT hb3 hbl); clear hrow hbl))
      exact HF.out _ _ _ HRW.out.2.2.1 HRW.out.2.2.2 HB2.out
    | false =>
      have hr : nmRes l k = ([], 7) := by unfold nmRes; rw [if_neg (fun h => h he), if_neg (by rw [hp]; decide)]
      have HF := hide (fun w' => HPO.out none 0 [] 7 w' hr (Nat.le_refl _) (sAt_none _))
      simp only [List.length_nil] at HF
      rw [hp] at HIP
      clear HPO hr he hA hk hmt R hp
      generalize NmOut (nmRes l k) w = PO at *
      go_enter Tryz.func7, Tryz.ntmps7
      go_wp2_with (first
        | (go_at_call 13; refine HOP.out.mono ?_; rintro e w1 ⟨rfl, hb1⟩)
        | (go_at_call 17; refine (HIP.out _ (by first | exact hb1 | exact bl_alloc hb1 _)).mono ?_; rintro e w2 ⟨rfl, hb2⟩; have hb3 := below_chainT (by first | exact hb1 | exact bl_alloc hb1 _) hb2))
      exact HF.out _ hb3
  · have hr : nmRes l k = ([], baseErr l) := by unfold nmRes; rw [if_pos he]
    have HF := hide (fun w' => HPO.out none 0 [] (baseErr l) w' hr (Nat.le_refl _) (sAt_none _))
    have e0 : (baseErr l == 0) = false := beq_eq_false_iff_ne.2 he
    have e1 : (baseErr l != 0) = true := bne_iff_ne.2 he
    simp only [List.length_nil] at HF
    clear HPO hr he hA hk hmt
    generalize NmOut (nmRes l k) w = PO at *
    generalize baseErr l = E at *
    go_enter Tryz.func7, Tryz.ntmps7
    go_wp2_with (go_at_call 13; refine HOP.out.mono ?_; rintro e w1 ⟨rfl, hb1⟩)
    exact HF.out _ (bl_alloc hb1 _)

end Go.Proofs.YtafgfldcbdkccaaGreatDoor
/-
  WALKS: slices.Equal of strings that are alike; the law LinkTitles.
-/
set_option linter.all false
namespace Go.Proofs.YtafgfldcbdkccaaGreatDoor
open Go.RowKit Go.Lib Go.Maps Go.WideElems Go.WideMaps Go.Shelf

set_option maxHeartbeats 800000 in
set_option maxRecDepth 100000 in
theorem equalS_same (A B : Option Addr) (c c' : Nat) (ns : List ByteArray) (w : World) (hA : SAt w A ns) (hB : SAt w B ns) :
    Calls Tryz.prog 8 #[.slice A ns.length c, .slice B ns.length c'] w fun e w' => e = .returned (.bool true) ∧ Below w.heap.size w w' := by
  have hm := hA.1
  unfold maxLen at hm
  have HA := hide hA.2
  have HB := hide hB.2
  clear hA hB
  go_enter Tryz.func8, Tryz.ntmps8
  go_wp2
  go_loopw [13] (fun i wr => ∃ (k n : Nat), k ≤ ns.length ∧ i = .int .i64 k ∧ wr = w.drewN n) (fun i _ => ns.length - (intOf i).toNat)
  case atStart => exact ⟨0, 0, Nat.zero_le _, rfl, rfl⟩
  case round =>
    obtain ⟨k, n, hk, rfl, rfl⟩ := hrel
    by_cases hlt : k < ns.length
    · obtain ⟨b, off, rfl, hb, hcell⟩ := HA.out (by omega)
      obtain ⟨b', off', rfl, hb', hcell'⟩ := HB.out (by omega)
      have c1 := hcell k hlt
      have c2 := hcell' k hlt
      generalize ns[k] = x at c1 c2
      clear hcell hcell'
      have i1 : (k : Int) < (ns.length : Int) := by omega
      have he : (x.toList == x.toList) = true := beq_self_eq_true _
      have he2 : (x.toList != x.toList) = false := by simp
      go_wp2
      go_quiet (fail)
      go_wp2
      go_roundw
      case rel => exact ⟨k + 1, _, hlt, by go_num, rfl⟩
      case measure => simp [intOf]; omega
    · have hkl : k = ns.length := by omega
      go_wp2
      go_returns
      exact ⟨rfl, bl_drewN (Below.refl _ _) _⟩

set_option maxHeartbeats 3200000 in
set_option maxRecDepth 100000 in
theorem linkTitles_any (l : List BK) (A : Option Addr) (c : Nat) (s : ByteArray) (k : Int) (w : World) (hA : BsAt w A l) (hk : ∀ b ∈ l, ∀ k ∈ b.kids, In64 k) (hmt : MaxTold w) (hs : s.size ≤ 1100000) (h64 : In64 k) :
    Calls Tryz.prog 3 #[.slice A l.length c, .string s, .int .i64 k] w fun e w' => e = .returned (.bool true) ∧ Below w.heap.size w w' := by
  obtain ⟨r, hr⟩ : ∃ r, r = if baseErr l ≠ 0 then ((0 : Int), baseErr l) else if leadL l (foldL s.data.toList) = 0 then (0, 7) else (leadL l (foldL s.data.toList), 0) := ⟨_, rfl⟩
  have HMT := hide (fun W (hb : Below w.heap.size w W) => maxTold_below hmt hb)
  have H1 := hide (fun W (hb : Below w.heap.size w W) => linkPage_any l A c W (hA.below hb) hk (HMT.out W hb) s hs r hr)
  have H2 := hide (fun W (hb : Below w.heap.size w W) => pageFor_any l A c W (hA.below hb) hk (HMT.out W hb) s hs r hr)
  have H3 := hide (fun W (hb : Below w.heap.size w W) => linkNames_any l A c W (hA.below hb) hk (HMT.out W hb) k h64)
  have H4 := hide (fun W (hb : Below w.heap.size w W) => namesFor_any l A c W (hA.below hb) hk (HMT.out W hb) k)
  have H5 := hide (fun W (hb : Below w.heap.size w W) => foldTitle_any s W (HMT.out W hb) hs)
  have H6 := hide (fun W (hb : Below w.heap.size w W) => foldOfTitle_any s W (HMT.out W hb) hs)
  unfold PgOut at H1 H2
  unfold NmOut at H3 H4
  have HPO : Hid (∀ w', Below w.heap.size w w' → (fun (e : Ending) (w' : World) => e = .returned (.bool true) ∧ Below w.heap.size w w') (.returned (.bool true)) w') := hide fun w' h2 => ⟨rfl, h2⟩
  generalize (fun (e : Ending) (w' : World) => e = .returned (.bool true) ∧ Below w.heap.size w w') = PO at *
  generalize nmRes l k = nr at *
  generalize foldT s = y at *
  obtain ⟨r1, r2⟩ := r
  obtain ⟨ns, n2⟩ := nr
  (try simp only at H1 H2 H3 H4)
  clear hr hA hk hmt HMT
  have he : (y.toList == y.toList) = true := beq_self_eq_true _
  have he1 : (r1 == r1) = true := beq_self_eq_true _
  have he2 : (r2 == r2) = true := beq_self_eq_true _
  have he3 : (n2 == n2) = true := beq_self_eq_true _
  go_enter Tryz.func3, Tryz.ntmps3
  go_wp2_with (first
    | (go_at_call 4; refine (H1.out _ (Below.refl _ _)).mono ?_; rintro e w1 ⟨rfl, hb1⟩)
    | (go_at_call 5; refine (H2.out _ hb1).mono ?_; rintro e w2 ⟨rfl, hb2'⟩; have hb2 := below_chainT hb1 hb2'; clear hb2')
    | (go_at_call 6; refine (H3.out _ hb2).mono ?_; rintro e w3 ⟨A3, c3, rfl, -, hs3, hb3'⟩; have hb3 := below_chainT hb2 hb3'; have HS3 := hide hs3; clear hb3' hs3)
    | (go_at_call 7; refine (H4.out _ hb3).mono ?_; rintro e w4 ⟨A4, c4, rfl, -, hs4, hb4'⟩; have hb4 := below_chainT hb3 hb4'; have HS4 := hide (And.intro (HS3.out.below hb4') hs4); clear hb4' hs4)
    | (go_at_call 8; refine (equalS_same A3 A4 c3 c4 ns w4 HS4.out.1 HS4.out.2).mono ?_; rintro e w5 ⟨rfl, hb5'⟩; have hb5 := below_chainT hb4 hb5'; clear hb5')
    | (go_at_call 9; refine (H5.out _ hb5).mono ?_; rintro e w6 ⟨rfl, hb6'⟩; have hb6 := below_chainT hb5 hb6'; clear hb6')
    | (go_at_call 10; refine (H6.out _ hb6).mono ?_; rintro e w7 ⟨rfl, hb7'⟩; have hb7 := below_chainT hb6 hb7'; clear hb7'))
  exact HPO.out _ hb7

end Go.Proofs.YtafgfldcbdkccaaGreatDoor
