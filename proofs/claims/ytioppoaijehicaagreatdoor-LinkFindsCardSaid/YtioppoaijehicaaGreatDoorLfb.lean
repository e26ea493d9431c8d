/-
  WALKS: the spans of a block of a view.
-/
import Derived.Test.YtioppoaijehicaaGreatDoorSph
import Derived.Test.YtioppoaijehicaaGreatDoorLkg
import Derived.Test.YtioppoaijehicaaGreatDoorLkb
import Derived.Test.YtioppoaijehicaaGreatDoorOwnC
import Derived.Deep.RegionHeld3
set_option linter.all false
namespace Go.Proofs.YtioppoaijehicaaGreatDoor
open Go.RowKit Go.Lib Go.Maps Go.WideElems Go.WideMaps

/-- The spans of a block's text; a title and the root's text have none. -/
noncomputable def spB (l : List BK) (id : Int) (txt : ByteArray) : List Sp := if id = 0 ∨ isPg l id = true then [] else spansL txt

set_option maxHeartbeats 1600000 in
set_option maxRecDepth 100000 in
theorem viewSpans_any (l : List BK) (A : Option Addr) (c gv : Nat) (w0 W : World) (hV : VW l A c w0 W gv) (id par : Int) (A1 : Option Addr) (m1 c1 : Nat) (txt : ByteArray) (A2 : Option Addr) (m2 c2 : Nat) (h64 : In64 id) (hs : txt.size ≤ 900000) :
    Calls Tryz.prog 82 #[.pointer (some ⟨gv, 0, none⟩), .agg #[.int .i64 id, .int .i64 par, .slice A1 m1 c1, .string txt, .slice A2 m2 c2]] W (RowSp (spB l id txt) W) := by
  have HV := hide hV
  have HSP := hide (fun w => spans_any txt w hs)
  unfold RowSp at HSP
  have HIP := hide (fun w (hv : VW l A c w0 w gv) => isPage_any l A c gv w0 w hv id h64)
  have HPO : Hid (∀ A c n w', n = (spB l id txt).length → OwnK 7 90 w' W.heap.size (.slice A n c) n (flatG Sp.vals (spB l id txt)) → Below W.heap.size W w' → RowSp (spB l id txt) W (.returned (.slice A n c)) w') := hide fun A c n w' hn h1 h2 => by subst hn; exact ⟨A, c, rfl, h1, h2⟩
  have HB0 := hide (bl_alloc (Below.refl W.heap.size W) (.cells #[.int .i64 id, .int .i64 par, .slice A1 m1 c1, .string txt, .slice A2 m2 c2] 82))
  clear hV hs
  by_cases h0 : id = 0
  · have he : spB l id txt = [] := by unfold spB; rw [if_pos (.inl h0)]
    rw [he] at HPO ⊢
    generalize RowSp [] W = PO at *
    have HF := hide (fun w' hb => HPO.out none 0 0 w' rfl OwnK.empty hb)
    subst h0
    clear HPO he HIP HSP
    go_enter Tryz.func82, Tryz.ntmps82
    go_wp2
    exact HF.out _ (by repeat (first | with_reducible exact Below.refl _ _ | with_reducible refine bl_plus ?_ | with_reducible refine bl_alloc ?_ _ | with_reducible refine bl_drew ?_ | with_reducible refine bl_drewN ?_ _))
  · have e0 : (id == 0) = false := beq_eq_false_iff_ne.2 h0
    cases hp : isPg l id with
    | true =>
      have he : spB l id txt = [] := by unfold spB; rw [if_pos (.inr hp)]
      rw [he] at HPO ⊢
      rw [hp] at HIP
      generalize RowSp [] W = PO at *
      have HF := hide (fun w' hb => HPO.out none 0 0 w' rfl OwnK.empty hb)
      clear HPO he HSP h0 hp
      go_enter Tryz.func82, Tryz.ntmps82
      go_wp2_with (go_at_call 80; refine (HIP.out _ (HV.out.below (by repeat (first | with_reducible exact Below.refl _ _ | with_reducible refine bl_plus ?_ | with_reducible refine bl_alloc ?_ _ | with_reducible refine bl_drew ?_ | with_reducible refine bl_drewN ?_ _)))).mono ?_; rintro e w1 ⟨rfl, rfl⟩)
      exact HF.out _ (by repeat (first | with_reducible exact Below.refl _ _ | with_reducible refine bl_plus ?_ | with_reducible refine bl_alloc ?_ _ | with_reducible refine bl_drew ?_ | with_reducible refine bl_drewN ?_ _))
    | false =>
      have he : spB l id txt = spansL txt := by unfold spB; rw [if_neg (by rw [hp]; simp [h0])]
      rw [he] at HPO ⊢
      rw [hp] at HIP
      generalize spansL txt = L at *
      generalize RowSp L W = PO at *
      clear he h0 hp
      go_enter Tryz.func82, Tryz.ntmps82
      go_wp2_with (first
        | (go_at_call 80; refine (HIP.out _ (HV.out.below (by repeat (first | with_reducible exact Below.refl _ _ | with_reducible refine bl_plus ?_ | with_reducible refine bl_alloc ?_ _ | with_reducible refine bl_drew ?_ | with_reducible refine bl_drewN ?_ _)))).mono ?_; rintro e w1 ⟨rfl, rfl⟩)
        | (go_at_call 116; go_loud (refine (HSP.out _).mono ?_; rintro e w2 ⟨A9, c9, rfl, hrow, hbl⟩; have HR := hide (show OwnK 7 90 w2 W.heap.size _ _ _ from ownK_low hrow (by simp only [World.size_alloc, plus_size, World.drew]; omega)); have HB2 := hide (below_chainT (show Below W.heap.size W _ from (by repeat (first | with_reducible exact Below.refl _ _ | with_reducible refine bl_plus ?_ | with_reducible refine bl_alloc ?_ _ | with_reducible refine bl_drew ?_ | with_reducible refine bl_drewN ?_ _))) hbl); clear hrow hbl)))
      exact HPO.out _ _ _ _ rfl HR.out HB2.out

end Go.Proofs.YtioppoaijehicaaGreatDoor
/-
  PLAIN: how large the spans of a text are; the links of a block.
-/
set_option linter.all false
namespace Go.Proofs.YtioppoaijehicaaGreatDoor
open Go.RowKit Go.Lib

/-! ### The sizes of spans -/
theorem ext_le (s : ByteArray) (a b : Nat) : (s.extract a b).size ≤ s.size := by
  rw [ByteArray.size_extract]; omega

theorem tokP_tx {s : ByteArray} {i : Nat} (hi : i < s.size) : (tokP s i).txt.size ≤ s.size := by
  unfold tokP tokO
  cases h1 : escP s i with
  | some x =>
    unfold escP at h1
    split at h1
    · split at h1
      · injection h1 with h1; subst h1; exact ext_le _ _ _
      · cases h1
    · cases h1
  | none =>
    cases h2 : codeP s i with
    | some x =>
      unfold codeP at h2
      split at h2
      · injection h2 with h2; subst h2; exact ext_le _ _ _
      · cases h2
    | none =>
      cases h3 : linkP s i with
      | some x =>
        unfold linkP at h3
        split at h3
        · split at h3
          · injection h3 with h3; subst h3; exact ext_le _ _ _
          · split at h3
            · injection h3 with h3; subst h3; exact ext_le _ _ _
            · cases h3
        · cases h3
      | none =>
        cases h4 : refP s i with
        | some x =>
          unfold refP at h4
          split at h4
          · injection h4 with h4; subst h4; exact ext_le _ _ _
          · cases h4
        | none =>
          cases h5 : tagP s i with
          | some x =>
            unfold tagP at h5
            split at h5
            · injection h5 with h5; subst h5; exact ext_le _ _ _
            · cases h5
          | none =>
            cases h6 : boldP s i with
            | some x =>
              unfold boldP at h6
              split at h6
              · rename_i h7
                injection h6 with h6; subst h6
                have := two_lt h7
                show 2 ≤ s.size
                omega
              · cases h6
            | none => exact Nat.zero_le _

theorem toksF_txt (s : ByteArray) : ∀ (f i : Nat), ∀ x ∈ toksF s f i, x.txt.size ≤ s.size
  | 0, _, x, h => by rw [toksF] at h; cases h
  | f + 1, i, x, h => by
    rw [toksF] at h
    split at h
    · rename_i hi
      rcases List.mem_cons.1 h with rfl | h
      · exact tokP_tx hi
      · exact toksF_txt s f _ x h
    · cases h

theorem strL_txt {m : Nat} {l : List Sp} (h : ∀ x ∈ l, x.txt.size ≤ m) : ∀ x ∈ strL l, x.txt.size ≤ m := by
  intro x hx
  obtain ⟨j, hj, rfl⟩ := List.getElem_of_mem hx
  have hj' : j < l.length := by rw [strL_len] at hj; exact hj
  rw [strL_get hj']
  exact h l[j] (List.getElem_mem hj')

theorem mrg1_txt {m : Nat} {out : List Sp} {x : Sp} (h : ∀ y ∈ out, y.txt.size ≤ m) (hx : x.txt.size ≤ m) : ∀ y ∈ mrg1 out x, y.txt.size ≤ m := by
  intro y hy
  unfold mrg1 at hy
  split at hy
  · rename_i z hz
    have hz' : z ∈ out := List.mem_of_getLast? hz
    split at hy
    · rcases List.mem_append.1 hy with hy | hy
      · exact h y (List.dropLast_subset _ hy)
      · rw [List.mem_singleton.1 hy]; exact h z hz'
    · rcases List.mem_append.1 hy with hy | hy
      · exact h y hy
      · rw [List.mem_singleton.1 hy]; exact hx
  · rcases List.mem_append.1 hy with hy | hy
    · exact h y hy
    · rw [List.mem_singleton.1 hy]; exact hx

theorem mrgF_txt {m : Nat} : ∀ (l out : List Sp), (∀ y ∈ out, y.txt.size ≤ m) → (∀ x ∈ l, x.txt.size ≤ m) → ∀ y ∈ l.foldl mrg1 out, y.txt.size ≤ m
  | [], _, h, _ => h
  | x :: t, out, h, hl => by
    rw [List.foldl_cons]
    exact mrgF_txt t _ (mrg1_txt h (hl x (List.mem_cons_self ..))) (fun y hy => hl y (List.mem_cons_of_mem _ hy))

theorem spansL_txt (s : ByteArray) : ∀ x ∈ spansL s, x.txt.size ≤ s.size := by
  intro x hx
  unfold spansL at hx
  obtain ⟨y, hy, rfl⟩ := List.mem_map.1 hx
  have h1 := mrgF_txt (m := s.size) (strL (toksAt s 0)) [] (fun y hy => by cases hy) (strL_txt (toksF_txt s _ _)) y hy
  unfold fill1
  split
  · exact ext_le _ _ _
  · exact h1

theorem spansL_len (s : ByteArray) : (spansL s).length ≤ s.size := by
  unfold spansL
  rw [List.length_map]
  have h1 := mrgJ_len (strL (toksAt s 0)) (strL (toksAt s 0)).length
  rw [mrgJ_all, strL_len] at h1
  have := toks_len s 0
  omega

/-! ### The links of a block -/
structure Lk where
  block : Int
  fr : Int
  «to» : Int
  prop : ByteArray
  title : ByteArray
  page : Int

def Lk.vals (x : Lk) : List Value := [.int .i64 x.block, .int .i64 x.fr, .int .i64 x.to, .string x.prop, .string x.title, .int .i64 x.page]

theorem valsLk_len (x : Lk) : (Lk.vals x).length = 6 := rfl

/-- The links among the spans of a text. -/
def lkSp (f : ByteArray → Int) (id : Int) (sp : List Sp) : List Lk := sp.filterMap fun x => if x.kind = 4 then some ⟨id, x.fr, x.to, ByteArray.empty, x.txt, f x.txt⟩ else none

/-- The links among values of a property. -/
def lkVs (f : ByteArray → Int) (id : Int) (n : ByteArray) (vs : List V) : List Lk := vs.filterMap fun v => if v.k = 6 then some ⟨id, 0, 0, n, v.s, f v.s⟩ else none

/-- The links among properties. -/
def lkPs (f : ByteArray → Int) (id : Int) (ps : List PR) : List Lk := ps.flatMap fun p => lkVs f id p.n (p.v :: p.v.l)

theorem lkSp_yes {f : ByteArray → Int} {id : Int} {sp : List Sp} {j : Nat} (h : j < sp.length) (hk : sp[j].kind = 4) : lkSp f id (sp.take (j + 1)) = lkSp f id (sp.take j) ++ [⟨id, sp[j].fr, sp[j].to, ByteArray.empty, sp[j].txt, f sp[j].txt⟩] := by
  unfold lkSp
  rw [List.take_succ_eq_append_getElem h, List.filterMap_append]
  congr 1
  simp [hk]

theorem lkSp_no {f : ByteArray → Int} {id : Int} {sp : List Sp} {j : Nat} (h : j < sp.length) (hk : sp[j].kind ≠ 4) : lkSp f id (sp.take (j + 1)) = lkSp f id (sp.take j) := by
  unfold lkSp
  rw [List.take_succ_eq_append_getElem h, List.filterMap_append]
  simp [hk]

theorem lkVs_yes {f : ByteArray → Int} {id : Int} {n : ByteArray} {vs : List V} {j : Nat} (h : j < vs.length) (hk : vs[j].k = 6) : lkVs f id n (vs.take (j + 1)) = lkVs f id n (vs.take j) ++ [⟨id, 0, 0, n, vs[j].s, f vs[j].s⟩] := by
  unfold lkVs
  rw [List.take_succ_eq_append_getElem h, List.filterMap_append]
  congr 1
  simp [hk]

theorem lkVs_no {f : ByteArray → Int} {id : Int} {n : ByteArray} {vs : List V} {j : Nat} (h : j < vs.length) (hk : vs[j].k ≠ 6) : lkVs f id n (vs.take (j + 1)) = lkVs f id n (vs.take j) := by
  unfold lkVs
  rw [List.take_succ_eq_append_getElem h, List.filterMap_append]
  simp [hk]

theorem lkPs_step {f : ByteArray → Int} {id : Int} {ps : List PR} {i : Nat} (h : i < ps.length) : lkPs f id (ps.take (i + 1)) = lkPs f id (ps.take i) ++ lkVs f id ps[i].n (ps[i].v :: ps[i].v.l) := by
  unfold lkPs
  rw [List.take_succ_eq_append_getElem h, List.flatMap_append]
  simp

theorem lkSp_len (f : ByteArray → Int) (id : Int) (sp : List Sp) : (lkSp f id sp).length ≤ sp.length := List.length_filterMap_le _ _

theorem lkVs_len (f : ByteArray → Int) (id : Int) (n : ByteArray) (vs : List V) : (lkVs f id n vs).length ≤ vs.length := List.length_filterMap_le _ _

theorem lkPs_len (f : ByteArray → Int) (id : Int) : ∀ (ps : List PR), (∀ p ∈ ps, p.v.l.length ≤ 20) → (lkPs f id ps).length ≤ ps.length * 21
  | [], _ => Nat.zero_le _
  | p :: t, h => by
    have h1 := lkPs_len f id t (fun q hq => h q (List.mem_cons_of_mem _ hq))
    have h2 := lkVs_len f id p.n (p.v :: p.v.l)
    have h3 := h p (List.mem_cons_self ..)
    have e : lkPs f id (p :: t) = lkVs f id p.n (p.v :: p.v.l) ++ lkPs f id t := rfl
    rw [e, List.length_append, List.length_cons, Nat.add_mul]
    rw [List.length_cons] at h2
    omega

end Go.Proofs.YtioppoaijehicaaGreatDoor
/-
  WALKS: the links of a view's block.
-/
set_option linter.all false
namespace Go.Proofs.YtioppoaijehicaaGreatDoor
open Go.RowKit Go.Lib Go.Maps Go.WideElems Go.WideMaps

theorem info_lk : (Tryz.prog.info? 45).map (fun i => (i.zero, i.size, i.bytes)) = some (some (.agg #[.int .i64 0, .int .i64 0, .int .i64 0, .string ByteArray.empty, .string ByteArray.empty, .int .i64 0]), 6, 64) := by kernel_rfl

/-- A row of links that the call owns. -/
def RowLk (l : List Lk) (w : World) (e : Ending) (w' : World) : Prop := ∃ A c, e = .returned (.slice A l.length c) ∧ OwnK 6 45 w' w.heap.size (.slice A l.length c) l.length (flatG Lk.vals l) ∧ Below w.heap.size w w'

/-- To which page a title leads. -/
noncomputable def leadF (l : List BK) (s : ByteArray) : Int := leadL l (foldL s.data.toList)

/-- The links of a block. -/
noncomputable def lksV (l : List BK) (id : Int) (txt : ByteArray) (ps : List PR) : List Lk := lkSp (leadF l) id (spB l id txt) ++ lkPs (leadF l) id ps

theorem spB_len (l : List BK) (id : Int) (txt : ByteArray) : (spB l id txt).length ≤ txt.size := by
  unfold spB
  split
  · exact Nat.zero_le _
  · exact spansL_len txt

theorem spB_txt (l : List BK) (id : Int) (txt : ByteArray) : ∀ x ∈ spB l id txt, x.txt.size ≤ txt.size := by
  intro x hx
  unfold spB at hx
  split at hx
  · cases hx
  · exact spansL_txt txt x hx

set_option maxHeartbeats 6400000 in
set_option maxRecDepth 100000 in
theorem viewLinksOf_any (l : List BK) (A : Option Addr) (c gv : Nat) (w0 W : World) (hV : VW l A c w0 W gv) (id par : Int) (A1 : Option Addr) (m1 c1 : Nat) (txt : ByteArray) (ps : List PR) (A2 : Option Addr) (c2 : Nat) (hP : PsAt W A2 ps) (h20 : ps.length ≤ 20) (hv : ∀ p ∈ ps, p.v.l.length ≤ 20) (hvs : ∀ p ∈ ps, ∀ v ∈ p.v :: p.v.l, v.s.size ≤ 1100000) (h64 : In64 id) (hs : txt.size ≤ 900000) :
    Calls Tryz.prog 76 #[.pointer (some ⟨gv, 0, none⟩), .agg #[.int .i64 id, .int .i64 par, .slice A1 m1 c1, .string txt, .slice A2 ps.length c2]] W (RowLk (lksV l id txt ps) W) := by
  have HV := hide hV
  have HP := hide hP
  have HV20 := hide hv
  have HVS := hide hvs
  have HSP := hide (fun w (hw : VW l A c w0 w gv) => viewSpans_any l A c gv w0 w hw id par A1 m1 c1 txt A2 ps.length c2 h64 hs)
  unfold RowSp at HSP
  have HLD := hide (fun w (hw : VW l A c w0 w gv) s (h : s.size ≤ 1100000) => (show Calls Tryz.prog 110 #[.pointer (some ⟨gv, 0, none⟩), .string s] w fun e w' => e = .returned (.int .i64 (leadF l s)) ∧ Below w.heap.size w w' from lead_any l A c gv w0 w hw s h))
  have HSL := hide (Nat.le_trans (spB_len l id txt) hs)
  have HST := hide (fun x hx => Nat.le_trans (spB_txt l id txt x hx) hs)
  have HPO : Hid (∀ A c n w', n = (lksV l id txt ps).length → OwnK 6 45 w' W.heap.size (.slice A n c) n (flatG Lk.vals (lksV l id txt ps)) → Below W.heap.size W w' → RowLk (lksV l id txt ps) W (.returned (.slice A n c)) w') := hide fun A c n w' hn h1 h2 => by subst hn; exact ⟨A, c, rfl, h1, h2⟩
  unfold lksV at *
  obtain ⟨iL, hiL, hzL0, hzL1, hzL2⟩ := info_parts info_lk
  obtain ⟨iV, hiV, hzV0, hzV1, hzV2⟩ := info_parts info_valL
  have HIL := hide (And.intro hiL (And.intro hzL0 (And.intro hzL1 hzL2)))
  have HIV := hide (And.intro hiV (And.intro hzV0 (And.intro hzV1 hzV2)))
  generalize leadF l = fL at *
  generalize spB l id txt = sp at *
  generalize RowLk (lkSp fL id sp ++ lkPs fL id ps) W = PO at *
  clear hV hP hv hvs hs h64 hiL hzL0 hzL1 hzL2 hiV hzV0 hzV1 hzV2
  go_enter Tryz.func76, Tryz.ntmps76
  go_upto_region 1 with (fail)
  have HBX := hide (Blk.new W 82 #[.int .i64 id, .int .i64 par, .slice A1 m1 c1, .string txt, .slice A2 ps.length c2])
  have HB0 := hide (bl_alloc (Below.refl W.heap.size W) (.cells #[.int .i64 id, .int .i64 par, .slice A1 m1 c1, .string txt, .slice A2 ps.length c2] 82))
  generalize W.alloc (.cells #[.int .i64 id, .int .i64 par, .slice A1 m1 c1, .string txt, .slice A2 ps.length c2] 82) = WB at *
  have HVB := hide (HV.out.below HB0.out)
  have HPB := hide (HP.out.below HB0.out)
  have HLO := hide HB0.out.size
  have HE0 := hide (fun w' (h : Below WB.heap.size WB w') => below_chainT HB0.out h)
  generalize hg0 : W.heap.size = g0 at *
  have HG0 := hide hg0
  clear hg0 HP HV HB0
  have z0 := HBX.out.cell 0
  have z1 := HBX.out.cell 1
  have z2 := HBX.out.cell 2
  have z3 := HBX.out.cell 3
  have z4 := HBX.out.cell 4
  have zlt := HBX.out.lt
  go_wp2_with (go_at_call 82; refine (HSP.out _ HVB.out).mono ?_; rintro e W1 ⟨A9, c9, rfl, hrow, hbl⟩; have HRD := hide (rdK_own (f := Sp.vals) (K := 7) (fun _ => rfl) (by decide) hrow); have HB1 := hide hbl; clear hrow hbl)
  have HBB := hide (HBX.out.below HB1.out HBX.out.lt)
  have HV1 := hide (HVB.out.below HB1.out)
  have HP1 := hide (HPB.out.below HB1.out)
  have HW1 := hide HB1.out.size
  have HE1 := hide (fun w' (h : Below W1.heap.size W1 w') => HE0.out w' (below_chainT HB1.out h))
  clear z0 z1 z2 z3 z4 zlt HBX HVB HPB HE0 HSP HB1
  have hspl := HSL.out
  go_loopw [5, 16] (fun s5 i9 wr => ∃ (j : Nat) (out : List Lk), j ≤ sp.length ∧ i9 = .int .i64 j ∧ Hid (out = lkSp fL id (sp.take j)) ∧ Hid (OwnK 6 45 wr W1.heap.size s5 out.length (flatG Lk.vals out)) ∧ Hid (Below W1.heap.size W1 wr)) (fun _ i9 _ => sp.length - (intOf i9).toNat)
  case atStart => exact ⟨0, [], Nat.zero_le _, rfl, hide rfl, hide OwnK.empty, hide (by repeat (first | with_reducible exact Below.refl _ _ | with_reducible refine bl_plus ?_ | with_reducible refine bl_alloc ?_ _ | with_reducible refine bl_drew ?_ | with_reducible refine bl_drewN ?_ _))⟩
  case round =>
    obtain ⟨j, out, hj, rfl, HO, HS, HB⟩ := hrel
    obtain ⟨A3, c3, rfl, hs1, hs2, hs3⟩ := ownK_form HS.out
    obtain ⟨WR, hWR⟩ : ∃ WR : World, WR = wr := ⟨_, rfl⟩
    subst hWR
    by_cases hlt : j < sp.length
    · obtain ⟨b, o, rfl, hb, hv0⟩ := (HRD.out.below HB.out) (by omega)
      have hv := hv0 j hlt
      have c0 := hv 0 (by decide)
      have c1' := hv 1 (by decide)
      have c2' := hv 2 (by decide)
      have c3' := hv 3 (by decide)
      have c4 := hv 4 (by decide)
      have c5 := hv 5 (by decide)
      have c6 := hv 6 (by decide)
      have hsz := HST.out sp[j] (List.getElem_mem hlt)
      have HY := hide (fun h => lkSp_yes (f := fL) (id := id) hlt h)
      have HN := hide (fun h => lkSp_no (f := fL) (id := id) hlt h)
      have i1 : (j : Int) < (sp.length : Int) := by omega
      have hol : out.length ≤ 900000 := by
        have h1 := lkSp_len fL id (sp.take j)
        rw [← HO.out, List.length_take] at h1
        have := HSL.out
        omega
      clear hv hv0
      generalize sp[j] = x at *
      obtain ⟨kd, fr, tt, tx, sh, xid, st⟩ := x
      dsimp only [Sp.vals] at c0 c1' c2' c3' c4 c5 c6 hsz HY HN
      simp only [List.getElem?_cons_zero, List.getElem?_cons_succ, Nat.add_zero] at c0 c1' c2' c3' c4 c5 c6
      by_cases hk : kd = 4
      · have HX := hide (by rw [HY.out hk, ← HO.out] : lkSp fL id (sp.take (j + 1)) = out ++ [⟨id, fr, tt, ByteArray.empty, tx, fL tx⟩])
        have HBG := hide (show (out.length + 1) * iL.bytes ≤ 140737488355328 ∧ out.length + 1 ≤ 140737488355328 by have h9 := HIL.out.2.2.2; rw [h9]; omega)
        subst hk
        clear HY HN HO hol
        go_upto_region 6 with (fail)
        have HBX := hide (Blk.new WR 90 #[.int .i64 4, .int .i64 fr, .int .i64 tt, .string tx, .string sh, .int .i64 xid, .bool st])
        have HB2 := hide (bl_alloc HB.out (.cells #[.int .i64 4, .int .i64 fr, .int .i64 tt, .string tx, .string sh, .int .i64 xid, .bool st] 90))
        have HOW := hide (ownK_alloc HS.out (.cells #[.int .i64 4, .int .i64 fr, .int .i64 tt, .string tx, .string sh, .int .i64 xid, .bool st] 90))
        have HSZ := hide (show WR.heap.size < (WR.alloc (.cells #[.int .i64 4, .int .i64 fr, .int .i64 tt, .string tx, .string sh, .int .i64 xid, .bool st] 90)).heap.size from HBX.out.lt)
        generalize WR.alloc (.cells #[.int .i64 4, .int .i64 fr, .int .i64 tt, .string tx, .string sh, .int .i64 xid, .bool st] 90) = W2 at *
        have HWS := hide HB2.out.size
        have v1 := HBX.out.cell 1
        have v2 := HBX.out.cell 2
        have v3 := HBX.out.cell 3
        simp only [List.getElem?_toArray, List.getElem?_cons_succ, List.getElem?_cons_zero] at v1 v2 v3
        have vlt := HSZ.out
        have HBB2 := hide (HBB.out.below HB2.out HBB.out.lt)
        have b0 := HBB2.out.cell 0
        simp only [List.getElem?_toArray, List.getElem?_cons_succ, List.getElem?_cons_zero] at b0
        have blt := HBB2.out.lt
        have HLL := hide (fun W' (h : Below W2.heap.size W2 W') => HLD.out W' (HV1.out.below (below_chainT HB2.out h)) tx (by omega))
        have HK : Hid (∀ w', Below W2.heap.size W2 w' → w'.cell? ⟨WR.heap.size, 1, none⟩ = some (.int .i64 fr) ∧ w'.cell? ⟨WR.heap.size, 2, none⟩ = some (.int .i64 tt) ∧ w'.cell? ⟨WR.heap.size, 3, none⟩ = some (.string tx) ∧ w'.cell? ⟨g0, 0, none⟩ = some (.int .i64 id) ∧ (Below W2.heap.size W2 w' ∨ Below W1.heap.size W1 w')) := hide fun w' hb => ⟨(hb.cell vlt).trans v1, (hb.cell vlt).trans v2, (hb.cell vlt).trans v3, (hb.cell blt).trans b0, .inl hb⟩
        go_region_held3 (fun w' => w'.cell? ⟨WR.heap.size, 1, none⟩ = some (.int .i64 fr) ∧ w'.cell? ⟨WR.heap.size, 2, none⟩ = some (.int .i64 tt) ∧ w'.cell? ⟨WR.heap.size, 3, none⟩ = some (.string tx) ∧ w'.cell? ⟨g0, 0, none⟩ = some (.int .i64 id) ∧ (Below W2.heap.size W2 w' ∨ Below W1.heap.size W1 w')) (first | assumption | exact HK.out _ (bl_drew (Below.refl _ _)) | exact HK.out _ (bl_alloc hB9.out _)) (first | ((refine step_append_b rfl (.tmp 23) (.tmp 37) rfl rfl Tryz.underlying35 HIL.out.1 HIL.out.2.1 HIL.out.2.2.1 (by decide) rfl (by have := HIL.out.2.2.2; omega) W1.heap.size out.length (.slice A3 out.length c3) (flatG Lk.vals out) [.int .i64 id, .int .i64 fr, .int .i64 tt, .string ⟨#[]⟩, .string tx, .int .i64 (fL tx)] _ rfl (ownK_alloc (ownK_below HOW.out hB9.out) _) rfl (by intro u hu; simp only [List.mem_cons, List.not_mem_nil, or_false] at hu; rcases hu with rfl | rfl | rfl | rfl | rfl | rfl <;> rfl) rfl (newN_cells (cs := [.int .i64 id, .int .i64 fr, .int .i64 tt, .string ⟨#[]⟩, .string tx, .int .i64 (fL tx)]) rfl) HBG.out (by have := HWS.out; have := hB9.out.size; (try simp only [World.size_alloc, plus_size, World.drew]); omega) ?_); intro v' w8 hown8 hgr8 hfr8; have hX8 := blk_grown1 HBX.out hgr8 (bl_alloc hB9.out _) HOW.out (by decide); have hB8 := blk_grown1 HBB2.out hgr8 (bl_alloc hB9.out _) HOW.out (by decide); obtain ⟨A7, c7, rfl, _⟩ := ownK_form hown8; have HB8 := hide ((HB2.out.trans (Below.mono (bl_alloc hB9.out _) HWS.out)).grown hgr8 (by have := HWS.out; have := hB9.out.size; (try simp only [World.size_alloc, plus_size, World.drew]); omega) (fun k9 hk9 => (HOW.out.lt k9 hk9).1)); have HOW8 := hide hown8; have hS := And.intro (hX8.cell 1) (And.intro (hX8.cell 2) (And.intro (hX8.cell 3) (And.intro (hB8.cell 0) (show Below W2.heap.size W2 w8 ∨ Below W1.heap.size W1 w8 from .inr HB8.out)))); clear hown8 hgr8 hfr8) | (go_at_call 110; (refine (HLL.out _ (by repeat (first | with_reducible exact Below.refl _ _ | with_reducible refine bl_plus ?_ | with_reducible refine bl_alloc ?_ _ | with_reducible refine bl_drew ?_ | with_reducible refine bl_drewN ?_ _))).mono ?_); rintro e w9 ⟨rfl, hbl⟩; have hB9 := hide (bl_trans (bl_drew (Below.refl W2.heap.size W2)) hbl); have hS := HK.out _ hB9.out))
        go_wp2
        go_roundw
        case rel => exact ⟨j + 1, out ++ [⟨id, fr, tt, ByteArray.empty, tx, fL tx⟩], by omega, by go_num, hide HX.out.symm, hide (by rw [List.length_append, flatG_snoc]; exact HOW8.out), HB8⟩
        case measure => simp [intOf]; omega
      · have e4 : (kd == 4) = false := beq_eq_false_iff_ne.2 hk
        have HX := hide (by rw [HN.out hk]; exact HO.out : out = lkSp fL id (sp.take (j + 1)))
        clear HY HN hk HO
        go_wp2
        go_roundw
        case rel => exact ⟨j + 1, out, by omega, by go_num, HX, hide (ownK_below HS.out (by repeat (first | with_reducible exact Below.refl _ _ | with_reducible refine bl_plus ?_ | with_reducible refine bl_alloc ?_ _ | with_reducible refine bl_drew ?_ | with_reducible refine bl_drewN ?_ _))), hide (below_chainT HB.out (by repeat (first | with_reducible exact Below.refl _ _ | with_reducible refine bl_plus ?_ | with_reducible refine bl_alloc ?_ _ | with_reducible refine bl_drew ?_ | with_reducible refine bl_drewN ?_ _)))⟩
        case measure => simp [intOf]; omega
    · obtain rfl : j = sp.length := by omega
      have HX := hide (by have := HO.out; rwa [List.take_length] at this : out = lkSp fL id sp)
      clear HO HRD hlt hj
      have HBR := hide (HBB.out.below HB.out HBB.out.lt)
      have y4 := HBR.out.cell 4
      simp only [List.getElem?_toArray, List.getElem?_cons_succ, List.getElem?_cons_zero] at y4
      have ylt := HBR.out.lt
      go_wp2
      go_loopw [5, 43] (fun s5 i9 wr => ∃ (i : Nat) (o2 : List Lk), i ≤ ps.length ∧ i9 = .int .i64 i ∧ Hid (o2 = lkSp fL id sp ++ lkPs fL id (ps.take i)) ∧ Hid (OwnK 6 45 wr W1.heap.size s5 o2.length (flatG Lk.vals o2)) ∧ Hid (Below W1.heap.size W1 wr)) (fun _ i9 _ => ps.length - (intOf i9).toNat)
      case atStart => exact ⟨0, out, Nat.zero_le _, rfl, hide (by rw [HX.out]; simp [lkPs]), hide (ownK_below HS.out (by repeat (first | with_reducible exact Below.refl _ _ | with_reducible refine bl_plus ?_ | with_reducible refine bl_alloc ?_ _ | with_reducible refine bl_drew ?_ | with_reducible refine bl_drewN ?_ _))), hide (below_chainT HB.out (by repeat (first | with_reducible exact Below.refl _ _ | with_reducible refine bl_plus ?_ | with_reducible refine bl_alloc ?_ _ | with_reducible refine bl_drew ?_ | with_reducible refine bl_drewN ?_ _)))⟩
      case round =>
        clear HS HB HBR y4 ylt HX
        obtain ⟨i, o2, hi, rfl, HO, HS, HB⟩ := hrel
        obtain ⟨A3, c3, rfl, hs1, hs2, hs3⟩ := ownK_form HS.out
        obtain ⟨WQ, hWQ⟩ : ∃ WQ : World, WQ = wr := ⟨_, rfl⟩
        subst hWQ
        by_cases hlt : i < ps.length
        · obtain ⟨b, o, rfl, hb, hp⟩ := (HP1.out.below HB.out).2 (by omega)
          obtain ⟨p0, -, p1, p2, p3, p4, A4, c4, p5, hL⟩ := (hp i hlt).cells
          have HL20 := hide (HV20.out ps[i] (List.getElem_mem hlt))
          have HVS1 := hide (HVS.out ps[i] (List.getElem_mem hlt))
          obtain ⟨news, hn1, hn2, hn3, hn4⟩ := lat_news hL
          have HN := hide (And.intro hn1 (And.intro hn2 (And.intro hn3 hn4)))
          have i1 : (i : Int) < (ps.length : Int) := by omega
          have hol : o2.length ≤ 900420 := by
            have h1 := lkSp_len fL id sp
            have h2 := lkPs_len fL id (ps.take i) (fun p hp => HV20.out p (List.mem_of_mem_take hp))
            rw [List.length_take] at h2
            rw [HO.out, List.length_append]
            omega
          have HX := hide (by rw [lkPs_step hlt, ← List.append_assoc, ← HO.out] : lkSp fL id sp ++ lkPs fL id (ps.take (i + 1)) = o2 ++ lkVs fL id ps[i].n (ps[i].v :: ps[i].v.l))
          clear hp hL hn1 hn2 hn3 hn4 HO
          generalize ps[i] = p at *
          obtain ⟨pn, pv⟩ := p
          obtain ⟨vk, vi, vt, vs, vl⟩ := pv
          simp only [V.k, V.i, V.t, V.s, V.l] at p0 p1 p2 p3 p4 p5 HL20 HN HX HVS1
          have hq20 : vl.length ≤ 20 := HL20.out
          have hSrc := hide (fun (W' : World) (hb : Below WQ.heap.size WQ W') => HN.out.2.1 W' hb)
          go_upto_block 5 with (at_builtin; go_loud (refine wpList_append_v rfl (.tmp 49) (.tmp 52) rfl rfl Tryz.underlying114 HIV.out.1 HIV.out.2.1 HIV.out.2.2.1 (by decide) rfl (by have := HIV.out.2.2.2; omega) WQ.heap.size 1 vl.length c4 (.slice (some ⟨WQ.heap.size + 1, 0, none⟩) 1 1) [.int .i64 vk, .int .i64 vi, .int .i64 vt, .string vs, .slice A4 vl.length c4] news A4 rfl (ownK_newL _ _ _ (by simp) rfl (by simp)) (by decide) HN.out.1 HN.out.2.2.1 rfl (hSrc.out _ (by repeat (first | with_reducible exact Below.refl _ _ | with_reducible refine bl_plus ?_ | with_reducible refine bl_alloc ?_ _ | with_reducible refine bl_drew ?_ | with_reducible refine bl_drewN ?_ _))) (by omega) (by simp only [World.size_alloc]; omega) ?_; intro v' w1 hown hgr hfr; have HBW := hide (show Below WQ.heap.size WQ w1 from (show Below WQ.heap.size WQ _ from (by repeat (first | with_reducible exact Below.refl _ _ | with_reducible refine bl_plus ?_ | with_reducible refine bl_alloc ?_ _ | with_reducible refine bl_drew ?_ | with_reducible refine bl_drewN ?_ _))).grown hgr (by simp only [World.size_alloc]; omega) (fun k hk => Nat.le_of_lt (Nat.lt_of_lt_of_eq (Nat.lt_succ_self WQ.heap.size) (by simpa [Value.ownBlock] using hk)))); have HPB := hide (show Blk w1 WQ.heap.size 118 #[.string pn, .int .i64 vk, .int .i64 vi, .int .i64 vt, .string vs, .slice A4 vl.length c4] from ((Blk.new WQ 118 #[.string pn, .int .i64 vk, .int .i64 vi, .int .i64 vt, .string vs, .slice A4 vl.length c4]).below (by repeat (first | with_reducible exact Below.refl _ _ | with_reducible refine bl_plus ?_ | with_reducible refine bl_alloc ?_ _ | with_reducible refine bl_drew ?_ | with_reducible refine bl_drewN ?_ _)) (Blk.new WQ 118 #[.string pn, .int .i64 vk, .int .i64 vi, .int .i64 vt, .string vs, .slice A4 vl.length c4]).lt).grown hgr (by intro e9; simp [Value.ownBlock] at e9)); obtain ⟨g', c', cur, rfl, hg', hrow⟩ := vrow_of (v := .mk vk vi vt vs vl) hown HN.out.2.2.2; have HROW := hide hrow; have hv21 : (V.mk vk vi vt vs vl :: vl).length ≤ 21 := (by rw [List.length_cons]; omega); dsimp only [V.l] at HROW ⊢; clear hown hgr hfr hrow; generalize V.mk vk vi vt vs vl :: vl = vv at *))
          have HS1 := hide (ownK_below HS.out HBW.out)
          have HB1 := hide (below_chainT HB.out HBW.out)
          clear HS HB HN hSrc p0 p1 p2 p3 p4 p5 HBW hg'
          go_wp2
          go_loopw [5, 55] (fun s5 i8 wr => ∃ (j : Nat) (o3 : List Lk), j ≤ vv.length ∧ i8 = .int .i64 j ∧ Hid (o3 = o2 ++ lkVs fL id pn (vv.take j)) ∧ Hid (OwnK 6 45 wr W1.heap.size s5 o3.length (flatG Lk.vals o3)) ∧ Hid (Below W1.heap.size W1 wr) ∧ Hid (VRow wr g' cur vv) ∧ Hid (Blk wr WQ.heap.size 118 #[.string pn, .int .i64 vk, .int .i64 vi, .int .i64 vt, .string vs, .slice A4 vl.length c4])) (fun _ i8 _ => vv.length - (intOf i8).toNat)
          case atStart => exact ⟨0, o2, Nat.zero_le _, rfl, hide (by simp [lkVs]), hide (ownK_below HS1.out (by repeat (first | with_reducible exact Below.refl _ _ | with_reducible refine bl_plus ?_ | with_reducible refine bl_alloc ?_ _ | with_reducible refine bl_drew ?_ | with_reducible refine bl_drewN ?_ _))), hide (below_chainT HB1.out (by repeat (first | with_reducible exact Below.refl _ _ | with_reducible refine bl_plus ?_ | with_reducible refine bl_alloc ?_ _ | with_reducible refine bl_drew ?_ | with_reducible refine bl_drewN ?_ _))), hide (HROW.out.below (by repeat (first | with_reducible exact Below.refl _ _ | with_reducible refine bl_plus ?_ | with_reducible refine bl_alloc ?_ _ | with_reducible refine bl_drew ?_ | with_reducible refine bl_drewN ?_ _))), hide (HPB.out.below (by repeat (first | with_reducible exact Below.refl _ _ | with_reducible refine bl_plus ?_ | with_reducible refine bl_alloc ?_ _ | with_reducible refine bl_drew ?_ | with_reducible refine bl_drewN ?_ _)) HPB.out.lt)⟩
          case round =>
            clear HS1 HB1 HROW HPB
            obtain ⟨j, o3, hj, rfl, HO2, HS, HB, HROW, HPB⟩ := hrel
            obtain ⟨A5, c5, rfl, hs4, hs5, hs6⟩ := ownK_form HS.out
            obtain ⟨W3, hW3⟩ : ∃ W3 : World, W3 = wr := ⟨_, rfl⟩
            subst hW3
            by_cases hlt2 : j < vv.length
            · obtain ⟨x0, x1, x2, x3, A6, c6, x4⟩ := HROW.out.2 j hlt2
              have hb5 := HROW.out.1
              have y0 := (hb5.cell (j * 5)).trans x0
              have y1 := (hb5.cell (j * 5 + 1)).trans x1
              have y2 := (hb5.cell (j * 5 + 2)).trans x2
              have y3 := (hb5.cell (j * 5 + 3)).trans x3
              have y4 := (hb5.cell (j * 5 + 4)).trans x4
              have hg5 := hb5.lt
              have i2 : (j : Int) < (vv.length : Int) := by omega
              have HSTY := hide (fun h => lkVs_yes (f := fL) (id := id) (n := pn) hlt2 h)
              have HSTN := hide (fun h => lkVs_no (f := fL) (id := id) (n := pn) hlt2 h)
              have hol3 : o3.length ≤ 900441 := by
                have h1 := lkVs_len fL id pn (vv.take j)
                rw [List.length_take] at h1
                rw [HO2.out, List.length_append]
                omega
              have HS2 := hide (HVS1.out vv[j] (List.getElem_mem hlt2))
              clear x0 x1 x2 x3 x4 hb5
              generalize vv[j] = v at *
              obtain ⟨vk2, vi2, vt2, vs2, vl2⟩ := v
              simp only [V.k, V.i, V.t, V.s, V.l] at y0 y1 y2 y3 y4 HSTY HSTN HS2
              by_cases hk6 : vk2 = 6
              · have HX2 := hide (by rw [HSTY.out hk6, ← List.append_assoc, ← HO2.out] : o2 ++ lkVs fL id pn (vv.take (j + 1)) = o3 ++ [⟨id, 0, 0, pn, vs2, fL vs2⟩])
                have HBG := hide (show (o3.length + 1) * iL.bytes ≤ 140737488355328 ∧ o3.length + 1 ≤ 140737488355328 by have h9 := HIL.out.2.2.2; rw [h9]; omega)
                subst hk6
                clear HSTY HSTN HO2 hol3 hol
                go_upto_region 15 with (fail)
                have HBX := hide (Blk.new W3 116 #[.int .i64 6, .int .i64 vi2, .int .i64 vt2, .string vs2, .slice A6 vl2.length c6])
                have HB2 := hide (bl_alloc HB.out (.cells #[.int .i64 6, .int .i64 vi2, .int .i64 vt2, .string vs2, .slice A6 vl2.length c6] 116))
                have HOW := hide (ownK_alloc HS.out (.cells #[.int .i64 6, .int .i64 vi2, .int .i64 vt2, .string vs2, .slice A6 vl2.length c6] 116))
                have HSZ := hide (show W3.heap.size < (W3.alloc (.cells #[.int .i64 6, .int .i64 vi2, .int .i64 vt2, .string vs2, .slice A6 vl2.length c6] 116)).heap.size from HBX.out.lt)
                have HRB := hide (HROW.out.1.below (bl_alloc (Below.refl W3.heap.size W3) (.cells #[.int .i64 6, .int .i64 vi2, .int .i64 vt2, .string vs2, .slice A6 vl2.length c6] 116)) HROW.out.1.lt)
                have HPB2 := hide (HPB.out.below (bl_alloc (Below.refl W3.heap.size W3) (.cells #[.int .i64 6, .int .i64 vi2, .int .i64 vt2, .string vs2, .slice A6 vl2.length c6] 116)) HPB.out.lt)
                generalize W3.alloc (.cells #[.int .i64 6, .int .i64 vi2, .int .i64 vt2, .string vs2, .slice A6 vl2.length c6] 116) = W2 at *
                have HWS := hide HB2.out.size
                have v3 := HBX.out.cell 3
                have p0 := HPB2.out.cell 0
                have HBB2 := hide (HBB.out.below HB2.out HBB.out.lt)
                have b0 := HBB2.out.cell 0
                simp only [List.getElem?_toArray, List.getElem?_cons_succ, List.getElem?_cons_zero] at v3 p0 b0
                have vlt := HSZ.out
                have plt := HPB2.out.lt
                have blt := HBB2.out.lt
                have HLL := hide (fun W' (h : Below W2.heap.size W2 W') => HLD.out W' (HV1.out.below (below_chainT HB2.out h)) vs2 HS2.out)
                have HK : Hid (∀ w', Below W2.heap.size W2 w' → w'.cell? ⟨W3.heap.size, 3, none⟩ = some (.string vs2) ∧ w'.cell? ⟨WQ.heap.size, 0, none⟩ = some (.string pn) ∧ w'.cell? ⟨g0, 0, none⟩ = some (.int .i64 id) ∧ (Below W2.heap.size W2 w' ∨ Below W1.heap.size W1 w')) := hide fun w' hb => ⟨(hb.cell vlt).trans v3, (hb.cell plt).trans p0, (hb.cell blt).trans b0, .inl hb⟩
                go_region_held3 (fun w' => w'.cell? ⟨W3.heap.size, 3, none⟩ = some (.string vs2) ∧ w'.cell? ⟨WQ.heap.size, 0, none⟩ = some (.string pn) ∧ w'.cell? ⟨g0, 0, none⟩ = some (.int .i64 id) ∧ (Below W2.heap.size W2 w' ∨ Below W1.heap.size W1 w')) (first | assumption | exact HK.out _ (bl_drew (Below.refl _ _)) | exact HK.out _ (bl_alloc hB9.out _)) (first | ((refine step_append_b rfl (.tmp 62) (.tmp 74) rfl rfl Tryz.underlying35 HIL.out.1 HIL.out.2.1 HIL.out.2.2.1 (by decide) rfl (by have := HIL.out.2.2.2; omega) W1.heap.size o3.length (.slice A5 o3.length c5) (flatG Lk.vals o3) [.int .i64 id, .int .i64 0, .int .i64 0, .string pn, .string vs2, .int .i64 (fL vs2)] _ rfl (ownK_alloc (ownK_below HOW.out hB9.out) _) rfl (by intro u hu; simp only [List.mem_cons, List.not_mem_nil, or_false] at hu; rcases hu with rfl | rfl | rfl | rfl | rfl | rfl <;> rfl) rfl (newN_cells (cs := [.int .i64 id, .int .i64 0, .int .i64 0, .string pn, .string vs2, .int .i64 (fL vs2)]) rfl) HBG.out (by have := HWS.out; have := hB9.out.size; (try simp only [World.size_alloc, plus_size, World.drew]); omega) ?_); intro v' w8 hown8 hgr8 hfr8; have hX8 := blk_grown1 HBX.out hgr8 (bl_alloc hB9.out _) HOW.out (by decide); have hP8 := blk_grown1 HPB2.out hgr8 (bl_alloc hB9.out _) HOW.out (by decide); have hR8 := blk_grown1 HRB.out hgr8 (bl_alloc hB9.out _) HOW.out (by decide); have hB8 := blk_grown1 HBB2.out hgr8 (bl_alloc hB9.out _) HOW.out (by decide); obtain ⟨A7, c7, rfl, _⟩ := ownK_form hown8; have HB8 := hide ((HB2.out.trans (Below.mono (bl_alloc hB9.out _) HWS.out)).grown hgr8 (by have := HWS.out; have := hB9.out.size; (try simp only [World.size_alloc, plus_size, World.drew]); omega) (fun k9 hk9 => (HOW.out.lt k9 hk9).1)); have HOW8 := hide hown8; have HR8 := hide hR8; have HP8 := hide hP8; have hS := And.intro (hX8.cell 3) (And.intro (hP8.cell 0) (And.intro (hB8.cell 0) (show Below W2.heap.size W2 w8 ∨ Below W1.heap.size W1 w8 from .inr HB8.out))); clear hown8 hgr8 hfr8) | (go_at_call 110; (refine (HLL.out _ (by repeat (first | with_reducible exact Below.refl _ _ | with_reducible refine bl_plus ?_ | with_reducible refine bl_alloc ?_ _ | with_reducible refine bl_drew ?_ | with_reducible refine bl_drewN ?_ _))).mono ?_); rintro e w9 ⟨rfl, hbl⟩; have hB9 := hide (bl_trans (bl_drew (Below.refl W2.heap.size W2)) hbl); have hS := HK.out _ hB9.out))
                go_wp2
                go_roundw
                case rel => exact ⟨j + 1, o3 ++ [⟨id, 0, 0, pn, vs2, fL vs2⟩], by omega, by go_num, hide (by rw [HX2.out]), hide (by rw [List.length_append, flatG_snoc]; exact HOW8.out), HB8, hide ⟨HR8.out, HROW.out.2⟩, HP8⟩
                case measure => simp [intOf]; omega
              · have e3 : (vk2 == 6) = false := beq_eq_false_iff_ne.2 hk6
                have HX2 := hide (by rw [HSTN.out hk6]; exact HO2.out : o3 = o2 ++ lkVs fL id pn (vv.take (j + 1)))
                clear hk6 HSTY HSTN
                go_wp2
                go_roundw
                case rel => exact ⟨j + 1, o3, by omega, by go_num, HX2, hide (ownK_below HS.out (by repeat (first | with_reducible exact Below.refl _ _ | with_reducible refine bl_plus ?_ | with_reducible refine bl_alloc ?_ _ | with_reducible refine bl_drew ?_ | with_reducible refine bl_drewN ?_ _))), hide (below_chainT HB.out (by repeat (first | with_reducible exact Below.refl _ _ | with_reducible refine bl_plus ?_ | with_reducible refine bl_alloc ?_ _ | with_reducible refine bl_drew ?_ | with_reducible refine bl_drewN ?_ _))), hide (HROW.out.below (by repeat (first | with_reducible exact Below.refl _ _ | with_reducible refine bl_plus ?_ | with_reducible refine bl_alloc ?_ _ | with_reducible refine bl_drew ?_ | with_reducible refine bl_drewN ?_ _))), hide (HPB.out.below (by repeat (first | with_reducible exact Below.refl _ _ | with_reducible refine bl_plus ?_ | with_reducible refine bl_alloc ?_ _ | with_reducible refine bl_drew ?_ | with_reducible refine bl_drewN ?_ _)) HPB.out.lt)⟩
                case measure => simp [intOf]; omega
            · obtain rfl : j = vv.length := by omega
              have HX2 := hide (by have := HO2.out; rw [List.take_length] at this; rw [this]; exact HX.out.symm : o3 = lkSp fL id sp ++ lkPs fL id (ps.take (i + 1)))
              go_wp2
              go_roundw
              case rel => exact ⟨i + 1, o3, by omega, by go_num, HX2, HS, HB⟩
              case measure => simp [intOf]; omega
        · obtain rfl : i = ps.length := by omega
          have HX := hide (by have := HO.out; rwa [List.take_length] at this : o2 = lkSp fL id sp ++ lkPs fL id ps)
          have hout := HX.out
          clear HO HX
          subst hout
          go_wp2
          exact HPO.out _ _ _ _ rfl (ownK_low HS.out (by have := HW1.out; have := HLO.out; omega)) (HE1.out _ HB.out)

end Go.Proofs.YtioppoaijehicaaGreatDoor
