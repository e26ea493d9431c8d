/-
  WALKS: the reference's book of a right base: pages, sorted, block, isPage, aliases.
-/
import Derived.Test.YtioppoaijehicaaGreatDoorLkg
import Derived.Test.YtioppoaijehicaaGreatDoorCnI
set_option linter.all false
namespace Go.Proofs.YtioppoaijehicaaGreatDoor
open Go.RowKit Go.Lib Go.Maps Go.WideElems Go.WideMaps Go.Shelf

/-- A right base as the reference's book has it. -/
structure BK0 (l : List BK) (A : Option Addr) (c : Nat) (w0 W : World) : Prop where
  right : Right l
  at_ : BsAt w0 A l
  told : MaxTold w0
  bel : Below w0.heap.size w0 W

theorem BK0.below {l : List BK} {A : Option Addr} {c : Nat} {w0 W W' : World} (h : BK0 l A c w0 W) (hb : Below W.heap.size W W') : BK0 l A c w0 W' := ⟨h.right, h.at_, h.told, below_chainT h.bel hb⟩

theorem BK0.pg {l : List BK} {A : Option Addr} {c : Nat} {w0 W : World} (h : BK0 l A c w0 W) : ∃ b o A1 c1, A = some ⟨b, o, none⟩ ∧ b < W.heap.size ∧ W.cell? ⟨b, o + 2, none⟩ = some (.slice A1 (pgs l).length c1) ∧ IntsAt w0 A1 (pgs l) ∧ (0 : Int) < (l.length : Int) := by
  obtain ⟨b, o, A1, c1, A2, c2, rfl, hlb, q0, q1, q2, q3, q4, hks, -⟩ := h.at_.getB h.bel h.right.pos
  have hpg := (pgs_eq h.right.pos).symm
  rw [hpg] at q2 hks
  simp only [Nat.zero_mul, Nat.add_zero] at q2
  exact ⟨b, o, A1, c1, rfl, hlb, q2, hks, by have := h.right.pos; omega⟩

def PgsOut (l : List BK) (w0 W : World) (e : Ending) (w' : World) : Prop := ∃ A1 c1, e = .returned (.slice A1 (pgs l).length c1) ∧ IntsAt w0 A1 (pgs l) ∧ Below W.heap.size W w'

set_option maxHeartbeats 1600000 in
theorem bookPages_any (l : List BK) (A : Option Addr) (c : Nat) (w0 W : World) (h : BK0 l A c w0 W) :
    Calls Tryz.prog 77 #[.agg #[.slice A l.length c]] W (PgsOut l w0 W) := by
  obtain ⟨b, o, A1, c1, rfl, hlb, q2, hks, i0⟩ := h.pg
  have HPO : Hid (∀ w', Below W.heap.size W w' → PgsOut l w0 W (.returned (.slice A1 (pgs l).length c1)) w') := hide fun w' h1 => ⟨A1, c1, rfl, hks, h1⟩
  generalize PgsOut l w0 W = PO at *
  clear h hks
  go_enter Tryz.func77, Tryz.ntmps77
  go_wp2
  exact HPO.out _ (by repeat (first | with_reducible exact Below.refl _ _ | with_reducible refine bl_plus ?_ | with_reducible refine bl_alloc ?_ _ | with_reducible refine bl_drew ?_ | with_reducible refine bl_drewN ?_ _))

/-! ### a copy of numbers -/
def ClIOut (l : List Int) (w : World) (e : Ending) (w' : World) : Prop := ∃ A c, e = .returned (.slice A l.length c) ∧ w'.ownsRow w.heap.size 3 1 (.slice A l.length c) l.length (l.map iV) ∧ Below w.heap.size w w'

set_option maxHeartbeats 1600000 in
theorem cloneI_any (A : Option Addr) (c : Nat) (l : List Int) (w : World) (hA : IntsAt w A l) (hl : l.length ≤ 1000000) :
    Calls Tryz.prog 154 #[.slice A l.length c] w (ClIOut l w) := by
  have qT : ∀ (w : World) (a : Option Addr) (n c n' c' : Nat), (binOp .eql 28 (.slice a n c) (.slice none n' c')).run Tryz.prog w = .ok (.bool a.isNone) w := fun w a n c n' c' => Lib.run_eql_slice_nil w _ _ a n c n' c' Tryz.underlying28
  cases A with
  | none =>
    have h0 : l = [] := by
      rcases Nat.eq_zero_or_pos l.length with h | h
      · exact List.length_eq_zero_iff.1 h
      · obtain ⟨b, o, hb, _⟩ := hA h
        cases hb
    subst h0
    go_enter Tryz.func154, Tryz.ntmps154
    go_wp2
    go_ret
    exact ⟨none, 0, rfl, World.ownsRow_nil _ _ _ _, Below.refl _ _⟩
  | some a =>
    have hown : (w.alloc (.cells #[] 3)).ownsRow w.heap.size 3 1 (.slice (some ⟨w.heap.size, 0, none⟩) 0 0) 0 [] :=
      ⟨rfl, .inr ⟨w.heap.size, 0, #[], rfl, Nat.le_refl _, heap_alloc_new w _, Nat.le_refl _, by simp [maxLen], rfl, rfl⟩⟩
    have hnews : ∀ (j : Nat) (u : Value), (l.map iV)[j]? = some u → (w.alloc (.cells #[] 3)).cell? (a.add j) = some u := by
      intro j u hu
      have hj : j < l.length := by
        have := (List.getElem?_eq_some_iff.1 hu).1
        rwa [List.length_map] at this
      obtain ⟨b, off, hab, hb, hc⟩ := (hA.below (bl_alloc (Below.refl _ _) (.cells #[] 3))) (by omega)
      injection hab with hab
      subst hab
      have hadd : (⟨b, off, none⟩ : Addr).add j = ⟨b, off + j, none⟩ := by unfold Addr.add; split <;> simp_all
      rw [hadd, hc j hj]
      rw [List.getElem?_map, List.getElem?_eq_getElem hj] at hu
      exact hu
    have hone : ∀ u ∈ l.map iV, u.oneCell' = true := by
      intro u hu
      obtain ⟨x, _, rfl⟩ := List.mem_map.1 hu
      rfl
    obtain ⟨i0, hi, hz0, hz1, hz2⟩ := info_parts info_intO
    have HO := hide hown
    have HN := hide hnews
    have HONE := hide hone
    have HPO : Hid (∀ A c w', w'.ownsRow w.heap.size 3 1 (.slice A l.length c) l.length (l.map iV) → Below w.heap.size w w' → ClIOut l w (.returned (.slice A l.length c)) w') := hide fun A c w' h1 h2 => ⟨A, c, rfl, h1, h2⟩
    generalize ClIOut l w = PO at *
    clear hown hnews hA hone
    go_enter Tryz.func154, Tryz.ntmps154
    go_wp2_with (at_builtin; refine wpList_append_own _ rfl (.tmp 5) (.tmp 6) 28 rfl w.heap.size 3 i0 (.int .i64 0) 1 8 Tryz.underlying28 hi hz0 hz1 hz2 rfl (by decide) _ 0 [] rfl HO.out a l.length c (l.map iV) rfl (by rw [List.length_map, Nat.mul_one]) HN.out HONE.out ?c1 ?c2 ?c3 ?_)
    case c1 => unfold maxLen; omega
    case c2 => omega
    case c3 => simp
    intro v' w1 hown1 hgrow1 _
    have hbw : Below w.heap.size w w1 := (Below.alloc (Below.refl _ _) (Nat.le_refl _) _).grown hgrow1 (by simp) (fun k hk => by simp [Value.ownBlock] at hk; omega)
    obtain ⟨A1, c1, rfl⟩ := ownsRow_len hown1
    have HFF := hide (HPO.out A1 c1 w1 hown1 hbw)
    clear hown1 hgrow1 hbw
    go_wp2
    exact HFF.out

theorem ownsRow_low {w : World} {b1 b2 : Nat} {t : TypeId} {K : Nat} {v : Value} {n : Nat} {xs : List Value} (h : w.ownsRow b1 t K v n xs) (hb : b2 ≤ b1) : w.ownsRow b2 t K v n xs := by
  refine ⟨h.1, ?_⟩
  rcases h.2 with h2 | ⟨g, cap, cur, hv, hg, h3⟩
  · exact .inl h2
  · exact .inr ⟨g, cap, cur, hv, Nat.le_trans hb hg, h3⟩
/-! ### sorted -/
set_option maxHeartbeats 1600000 in
theorem bookSorted_any (l : List BK) (A : Option Addr) (c : Nat) (w0 W : World) (h : BK0 l A c w0 W) :
    Calls Tryz.prog 112 #[.agg #[.slice A l.length c]] W (SdzOut (pgs l) W) := by
  have HP := hide (bookPages_any l A c w0 (W.alloc (.cells #[.slice A l.length c] 71)) (h.below (bl_alloc (Below.refl _ _) _)))
  have HBE := hide h.bel
  have hl5 := h.right.pgs_len
  unfold PgsOut at HP
  have HPO : Hid (∀ A c w', w'.ownsRow W.heap.size 3 1 (.slice A (pgs l).length c) (pgs l).length ((sortZ (pgs l)).map iV) → Below W.heap.size W w' → SdzOut (pgs l) W (.returned (.slice A (pgs l).length c)) w') := hide fun A c w' h1 h2 => ⟨A, c, rfl, h1, h2⟩
  generalize SdzOut (pgs l) W = PO at *
  clear h
  generalize pgs l = ps at *
  go_enter Tryz.func112, Tryz.ntmps112
  go_upto_region 2 with (first
    | (go_at_call 77; refine HP.out.mono ?_; rintro e w1 ⟨A1, c1, rfl, hk, hbl⟩; have HB1 := hide (below_chainT (bl_alloc (Below.refl W.heap.size W) (.cells #[.slice A l.length c] 71)) hbl); have HK := hide hk; clear hk hbl)
    | (go_at_call 154; refine (cloneI_any A1 c1 ps _ (HK.out.below (below_chainT HBE.out HB1.out)) (by omega)).mono ?_; rintro e w2 ⟨A2, c2, rfl, hrow, hbl⟩; have HRW := hide hrow; have HB2 := hide hbl; clear hrow hbl))
  have HS := hide (sortR_any w2 w1.heap.size c2 A2 ps HRW.out (by omega))
  have HOB := hide (fun k hk => (HRW.out.lt k hk).1)
  have HFF := hide (fun w3 (hg : w2.grownBy w3 (Value.slice A2 ps.length c2).ownBlock) => (below_chainT HB1.out HB2.out).grown hg (Nat.le_trans HB1.out.size HB2.out.size) (fun k hk => Nat.le_trans HB1.out.size (HOB.out k hk)))
  have HLE := hide HB1.out.size
  clear HRW HP HK HB2 HB1 HBE hl5
  generalize ps.length = n at *
  go_wp2_with (go_at_call 53; refine HS.out.mono ?_; rintro e w3 ⟨rfl, hrow, hg⟩)
  exact HPO.out A2 c2 _ (ownsRow_low hrow HLE.out) (HFF.out _ hg)

end Go.Proofs.YtioppoaijehicaaGreatDoor
/-
  WALKS: the reference's book of a right base: block, isPage, aliases.
-/
namespace Go.Proofs.YtioppoaijehicaaGreatDoor
open Go.RowKit Go.Lib Go.Maps Go.WideElems Go.WideMaps Go.Shelf

/-! ### block -/
def BbOut (A : Option Addr) (m : Nat) (W : World) (e : Ending) (w' : World) : Prop := (∃ b o, A = some ⟨b, o, none⟩ ∧ e = .returned (.pointer (some ⟨b, o + m * 5, none⟩))) ∧ Below W.heap.size W w'

set_option maxHeartbeats 1600000 in
set_option maxRecDepth 100000 in
theorem bookBlock_any (l : List BK) (A : Option Addr) (c : Nat) (w0 W : World) (h : BK0 l A c w0 W) {m : Nat} (hm : m < l.length) :
    Calls Tryz.prog 46 #[.agg #[.slice A l.length c], .int .i64 l[m].id] W (BbOut A m W) := by
  have H := hide h
  have hl2 := h.right.len
  obtain ⟨b0, o0, A1, c1, A2, c2, rfl, -⟩ := h.at_.getB h.bel hm
  have HPO : Hid (∀ w', Below W.heap.size W w' → BbOut (some ⟨b0, o0, none⟩) m W (.returned (.pointer (some ⟨b0, o0 + m * 5, none⟩))) w') := hide fun w' h1 => ⟨⟨b0, o0, rfl, rfl⟩, h1⟩
  generalize BbOut (some ⟨b0, o0, none⟩) m W = PO at *
  have HID := hide (fun (q : Nat) (hq : q < m) => (fun e => by have := h.right.good.ids.inj (by omega) hm e; omega : l[q].id ≠ l[m].id))
  generalize hk : l[m].id = k at *
  have HK := hide hk
  clear h hk
  go_enter Tryz.func46, Tryz.ntmps46
  go_wp2
  go_loopw [9] (fun i9 wr => ∃ q : Nat, q ≤ m ∧ i9 = .int .i64 q ∧ wr = W.alloc (.cells #[.slice (some ⟨b0, o0, none⟩) l.length c] 71)) (fun i9 _ => m - (intOf i9).toNat)
  case atStart => exact ⟨0, Nat.zero_le _, rfl, rfl⟩
  case round =>
    obtain ⟨q, hq, rfl, rfl⟩ := hrel
    have hql : q < l.length := by omega
    obtain ⟨b, o, A1, c1, A2, c2, e1, hlb, q0, -⟩ := H.out.at_.getB H.out.bel hql
    injection e1 with e1
    injection e1 with e11 e12
    subst e11 e12
    have iq : (q : Int) < (l.length : Int) := by omega
    by_cases hlt : q < m
    · have e0 : (l[q].id == k) = false := beq_eq_false_iff_ne.2 (HID.out q hlt)
      generalize l[q].id = x at *
      go_wp2
      go_roundw
      case rel => exact ⟨q + 1, by omega, by go_num, by trivial⟩
      case measure => simp [intOf]; omega
    · obtain rfl : q = m := by omega
      have e0 : (l[q].id == k) = true := beq_iff_eq.2 HK.out
      generalize l[q].id = x at *
      go_wp2
      exact HPO.out _ (by repeat (first | with_reducible exact Below.refl _ _ | with_reducible refine bl_plus ?_ | with_reducible refine bl_alloc ?_ _ | with_reducible refine bl_drew ?_ | with_reducible refine bl_drewN ?_ _))

/-! ### isPage -/
set_option maxHeartbeats 1600000 in
set_option maxRecDepth 100000 in
theorem bookIsPage_any (l : List BK) (A : Option Addr) (c : Nat) (w0 W : World) (h : BK0 l A c w0 W) (k : Int) :
    Calls Tryz.prog 38 #[.agg #[.slice A l.length c], .int .i64 k] W fun e w' => e = .returned (.bool (isPg l k)) ∧ Below W.heap.size W w' := by
  have HP := hide (fun W' (hb : Below W.heap.size W W') => bookPages_any l A c w0 W' (h.below hb))
  unfold PgsOut at HP
  have HBE := hide h.bel
  have hl5 := h.right.pgs_len
  by_cases h0 : 0 < k
  · have e0 : isPg l k = decide (k ∈ pgs l) := rfl
    rw [e0]
    clear e0
    have HQ : ∀ b, decide (k ∈ pgs l) = b → Calls Tryz.prog 38 #[.agg #[.slice A l.length c], .int .i64 k] W fun e w' => e = .returned (.bool b) ∧ Below W.heap.size W w' := by
      intro b hb
      have HD := hide hb
      clear hb h
      go_enter Tryz.func38, Tryz.ntmps38
      go_wp2_with (first
        | (go_at_call 77; refine (HP.out _ ?hb1).mono ?_; (case hb1 => exact (by repeat (first | with_reducible exact Below.refl _ _ | with_reducible refine bl_plus ?_ | with_reducible refine bl_alloc ?_ _ | with_reducible refine bl_drew ?_ | with_reducible refine bl_drewN ?_ _))); rintro e w1 ⟨A1, c1, rfl, hk, hbl⟩; have HB1 := hide (below_chainT (w := W) (by repeat (first | with_reducible exact Below.refl _ _ | with_reducible refine bl_plus ?_ | with_reducible refine bl_alloc ?_ _ | with_reducible refine bl_drew ?_ | with_reducible refine bl_drewN ?_ _)) hbl); have HK := hide hk; clear hk hbl)
        | (go_at_call 44; refine (containsI_any A1 c1 (pgs l) k w1 (HK.out.below (below_chainT HBE.out HB1.out)) (by omega)).mono ?_; rintro e w2 ⟨rfl, rfl⟩; rw [HD.out]))
      cases b with
      | true =>
        go_ret
        exact ⟨rfl, HB1.out⟩
      | false =>
        go_ret
        exact ⟨rfl, HB1.out⟩
    exact HQ _ rfl
  · have hn : isPg l k = false := decide_eq_false (fun hm => by have := h.right.pgs_pos hm; omega)
    rw [hn]
    have i0 : ¬ (0 : Int) < k := h0
    clear hn h h0
    go_enter Tryz.func38, Tryz.ntmps38
    go_wp2
    go_ret
    exact ⟨rfl, (by repeat (first | with_reducible exact Below.refl _ _ | with_reducible refine bl_plus ?_ | with_reducible refine bl_alloc ?_ _ | with_reducible refine bl_drew ?_ | with_reducible refine bl_drewN ?_ _))⟩

/-! ### aliases -/
theorem alsV_yes {v : V} (h : v.k = 3) : alsV v = strVs [v] := by
  unfold alsV
  rw [if_pos (by simpa using h)]

theorem alsV_no {v : V} (h : v.k ≠ 3) : alsV v = strVs v.l := by
  unfold alsV
  rw [if_neg (by simpa using h)]

/-- Values that lie at an address. -/
def VsRd (w : World) (A : Option Addr) (vs : List V) : Prop := 0 < vs.length → ∃ b o, A = some ⟨b, o, none⟩ ∧ b < w.heap.size ∧ ∀ j (h : j < vs.length), valCs (fun i => w.cell? ⟨b, o + i, none⟩) (j * 5) vs[j]

theorem VsRd.below {w w' : World} {A : Option Addr} {vs : List V} (h : VsRd w A vs) (hb : Below w.heap.size w w') : VsRd w' A vs := fun h0 => by
  obtain ⟨b, o, e, hlt, hc⟩ := h h0
  refine ⟨b, o, e, Nat.lt_of_lt_of_le hlt hb.size, fun j hj => ?_⟩
  obtain ⟨x0, x1, x2, x3, A', c', x4⟩ := hc j hj
  have hk : ∀ i, w'.cell? ⟨b, i, none⟩ = w.cell? ⟨b, i, none⟩ := fun i => hb.cell (p := ⟨b, i, none⟩) hlt
  exact ⟨(hk _).trans x0, (hk _).trans x1, (hk _).trans x2, (hk _).trans x3, A', c', (hk _).trans x4⟩

theorem vsRd_lat {w : World} {A : Option Addr} {vs : List V} (h : LAt w A vs) : VsRd w A vs := fun h0 => by
  obtain ⟨b, o, e, hlt, hc⟩ := h.2 h0
  refine ⟨b, o, e, hlt, fun j hj => ?_⟩
  obtain ⟨c0, c1, c2, c3, A', c', c4, -⟩ := VAt_iff.1 (hc j hj)
  exact ⟨c0, c1, c2, c3, A', c', c4⟩

theorem vsRd_one {w : World} {g : Nat} {v : V} {A3 : Option Addr} {c3 : Nat} (h : Blk w g 116 #[.int .i64 v.k, .int .i64 v.i, .int .i64 v.t, .string v.s, .slice A3 v.l.length c3]) : VsRd w (some ⟨g, 0, none⟩) [v] := fun _ => by
  refine ⟨g, 0, rfl, h.lt, fun j hj => ?_⟩
  have h0 : j = 0 := by simp at hj; omega
  subst h0
  exact ⟨h.cell 0, h.cell 1, h.cell 2, h.cell 3, A3, c3, h.cell 4⟩

set_option maxHeartbeats 6400000 in
set_option maxRecDepth 100000 in
theorem bookAliases_any (l : List BK) (A : Option Addr) (c : Nat) (w0 W : World) (h : BK0 l A c w0 W) {m : Nat} (hm : m < l.length) :
    Calls Tryz.prog 114 #[.agg #[.slice A l.length c], .int .i64 l[m].id] W (AlOut (alsA l[m].ps) W) := by
  have HBB := hide (fun W' (hb : Below W.heap.size W W') => bookBlock_any l A c w0 W' (h.below hb) hm)
  unfold BbOut at HBB
  obtain ⟨b0, o0, A1, c1, A2, c2, rfl, hlb, q0, q1, q2, q3, q4, hks, hps⟩ := h.at_.getB h.bel hm
  have hpe := h.right.ps _ (List.getElem_mem hm)
  have HPE := hide hpe
  have hsm := als_same hpe
  have HBE := hide h.bel
  have HPO : Hid (∀ A c w', OwnK 1 9 w' W.heap.size (.slice A (alsA l[m].ps).length c) (alsA l[m].ps).length (sV (alsA l[m].ps)) → Below W.heap.size W w' → AlOut (alsA l[m].ps) W (.returned (.slice A (alsA l[m].ps).length c)) w') := hide fun A c w' h1 h2 => ⟨A, c, rfl, h1, h2⟩
  generalize AlOut (alsA l[m].ps) W = PO at *
  rw [← hsm] at HPO
  obtain ⟨iS, hiS, hzS0, hzS1, hzS2⟩ := info_parts info_strL
  have HIS := hide (And.intro hiS (And.intro hzS0 (And.intro hzS1 hzS2)))
  have HPS := hide hps
  have HQ4 := hide q4
  clear hiS hzS0 hzS1 hzS2 hps hks q0 q1 q2 q3 q4 hpe hsm h
  generalize l[m].id = k at *
  generalize l[m].ps = ps at *
  have HGO := hide (fun W' (hb : Below W.heap.size W W') => getOf_any A2 c2 ps aliasS W' (HPS.out.below (below_chainT HBE.out hb)))
  unfold GetOut at HGO
  go_enter Tryz.func114, Tryz.ntmps114
  have hbc := fun W' (hb : Below W.heap.size W W') => (hb.cell (p := ⟨b0, o0 + m * 5 + 4, none⟩) hlb).trans HQ4.out
  have HBC := hide hbc
  clear hbc
  cases hfi : firstIdx (prIs ps aliasS) ps.length with
  | none =>
    have HAV := hide (show strVs [] = alsB ps from by unfold alsB; rw [hfi]; rfl)
    rw [hfi] at HGO
    clear hfi
    go_upto_region 6 with (first
      | (go_at_call 46; refine (HBB.out _ ?hb1).mono ?_; (case hb1 => exact (by repeat (first | with_reducible exact Below.refl _ _ | with_reducible refine bl_plus ?_ | with_reducible refine bl_alloc ?_ _ | with_reducible refine bl_drew ?_ | with_reducible refine bl_drewN ?_ _))); rintro e w1 ⟨⟨b9, o9, e9, rfl⟩, hbl⟩; have HB1 := hide (below_chainT (w := W) (by repeat (first | with_reducible exact Below.refl _ _ | with_reducible refine bl_plus ?_ | with_reducible refine bl_alloc ?_ _ | with_reducible refine bl_drew ?_ | with_reducible refine bl_drewN ?_ _)) hbl); injection e9 with e9; injection e9 with e91 e92; subst e91 e92; have q4 := HBC.out _ HB1.out; have hb0 := Nat.lt_of_lt_of_le hlb HB1.out.size; clear hbl)
      | (go_at_call 155; refine (HGO.out _ HB1.out).mono ?_; rintro e w2 ⟨hbl, ⟨q', hq', A7, c7, hf, -, -⟩ | ⟨-, rfl⟩⟩; exact absurd hf (by simp); have HB2 := hide (below_chainT HB1.out hbl); clear hbl))
    have HW3 := hide (bl_alloc HB2.out (.cells #[.int .i64 0, .int .i64 0, .int .i64 0, .string ⟨#[]⟩, .slice none 0 0] 116))
    generalize w2.alloc (.cells #[.int .i64 0, .int .i64 0, .int .i64 0, .string ⟨#[]⟩, .slice none 0 0] 116) = W3 at *
    have hB0 : alsB ps = [] := HAV.out.symm
    rw [hB0] at HPO
    simp only [List.length_nil] at HPO
    clear HAV hB0 HBB HGO HBC HPS HPE HQ4
    go_wp2
    go_loopw [8, 30] (fun s8 i9 wr => s8 = .slice none 0 0 ∧ i9 = .int .i64 0 ∧ Hid (Below W.heap.size W wr)) (fun _ _ _ => 0)
    case atStart => exact ⟨rfl, rfl, hide (below_chainT HW3.out (by repeat (first | with_reducible exact Below.refl _ _ | with_reducible refine bl_plus ?_ | with_reducible refine bl_alloc ?_ _ | with_reducible refine bl_drew ?_ | with_reducible refine bl_drewN ?_ _)))⟩
    case round =>
      obtain ⟨rfl, rfl, HB⟩ := hrel
      go_wp2
      exact HPO.out none 0 wr OwnK.empty HB.out
  | some q =>
    obtain ⟨hq, -⟩ := firstIdx_lt hfi
    have HGO2 : Hid (∀ W', Below W.heap.size W W' → Calls Tryz.prog 155 #[.slice A2 ps.length c2, .string aliasS] W' fun e w2 => Below W'.heap.size W' w2 ∧ ∃ A7 c7, e = .returned (.tuple #[ps[q].v.arg A7 c7, .bool true]) ∧ LAt w2 A7 ps[q].v.l) := hide fun W' hb => (HGO.out W' hb).mono fun e w2 h => by
      rw [hfi] at h
      obtain ⟨hbl, ⟨q', hq', A7, c7, hf, he, hL⟩ | ⟨hf, -⟩⟩ := h
      · obtain rfl := Option.some.inj hf
        exact ⟨hbl, A7, c7, he, hL.below hbl⟩
      · cases hf
    clear HGO
    have HGO := HGO2
    clear HGO2
    have HAV0 := hide (show alsV ps[q].v = alsB ps from by unfold alsB; rw [hfi]; simp only [List.getElem?_eq_getElem hq]; rfl)
    have hv20 := (valErr_zero (propsErr_val HPE.out _ (List.getElem_mem hq))).2.2.1
    have HAV3 := hide (fun h => (alsV_yes h).symm.trans HAV0.out)
    have HAVN := hide (fun h => (alsV_no h).symm.trans HAV0.out)
    clear HAV0
    clear hfi
    generalize ps[q].v = v at *
    clear hq
    obtain ⟨vk, vi, vt, vs, vl⟩ := v
    simp only [V.arg, V.k, V.i, V.t, V.s, V.l] at HGO HAV3 HAVN hv20
    by_cases hk3 : vk = 3
    · have HAV := hide (HAV3.out hk3)
      have e3 : (vk == 3) = true := by rw [hk3]; rfl
      clear HAV3 HAVN hk3
      go_upto_region 6 with (first
        | (go_at_call 46; refine (HBB.out _ ?hb1).mono ?_; (case hb1 => exact (by repeat (first | with_reducible exact Below.refl _ _ | with_reducible refine bl_plus ?_ | with_reducible refine bl_alloc ?_ _ | with_reducible refine bl_drew ?_ | with_reducible refine bl_drewN ?_ _))); rintro e w1 ⟨⟨b9, o9, e9, rfl⟩, hbl⟩; have HB1 := hide (below_chainT (w := W) (by repeat (first | with_reducible exact Below.refl _ _ | with_reducible refine bl_plus ?_ | with_reducible refine bl_alloc ?_ _ | with_reducible refine bl_drew ?_ | with_reducible refine bl_drewN ?_ _)) hbl); injection e9 with e9; injection e9 with e91 e92; subst e91 e92; have q4 := HBC.out _ HB1.out; have hb0 := Nat.lt_of_lt_of_le hlb HB1.out.size; clear hbl)
        | (go_at_call 155; refine (HGO.out _ HB1.out).mono ?_; rintro e w2 ⟨hbl, ⟨A7, c7, rfl, hL⟩⟩; have HB2 := hide (below_chainT HB1.out hbl); have HLL := hide hL; clear hbl hL))
      have HZB := hide (Blk.new (w2.alloc (.cells #[.int .i64 vk, .int .i64 vi, .int .i64 vt, .string vs, .slice A7 vl.length c7] 116)) 116 #[.int .i64 vk, .int .i64 vi, .int .i64 vt, .string vs, .slice A7 vl.length c7])
      have HW3 := hide (bl_alloc (bl_alloc HB2.out (.cells #[.int .i64 vk, .int .i64 vi, .int .i64 vt, .string vs, .slice A7 vl.length c7] 116)) (.cells #[.int .i64 vk, .int .i64 vi, .int .i64 vt, .string vs, .slice A7 vl.length c7] 116))
      simp only [World.size_alloc] at HZB
      generalize (w2.alloc (.cells #[.int .i64 vk, .int .i64 vi, .int .i64 vt, .string vs, .slice A7 vl.length c7] 116)).alloc (.cells #[.int .i64 vk, .int .i64 vi, .int .i64 vt, .string vs, .slice A7 vl.length c7] 116) = W3 at *
      have HRD := hide (fun wr (hb : Below W3.heap.size W3 wr) => (vsRd_one (v := .mk vk vi vt vs vl) HZB.out).below hb)
      have HE1 := hide (show strVs [V.mk vk vi vt vs vl] = [vs] from by rw [strVs_cons, if_pos (show ((V.mk vk vi vt vs vl).k == 3) = true from e3)]; rfl)
      have hB1 : alsB ps = [vs] := HAV.out.symm.trans HE1.out
      rw [hB1] at HPO
      simp only [List.length_singleton] at HPO
      have ek := beq_iff_eq.1 e3
      subst ek
      generalize w2.heap.size + 1 = gz at *
      clear HAV HE1 hB1 HLL HBB HGO HBC HPS HPE HQ4
      go_wp2
      go_loopw [8, 30] (fun s8 i9 wr => (i9 = .int .i64 0 ∧ s8 = .slice none 0 0 ∧ Hid (Below W3.heap.size W3 wr)) ∨ (i9 = .int .i64 1 ∧ ∃ A9 c9, s8 = .slice A9 1 c9 ∧ Hid (OwnK 1 9 wr W3.heap.size (.slice A9 1 c9) 1 [.string vs]) ∧ Hid (Below W3.heap.size W3 wr))) (fun _ i9 _ => 1 - (intOf i9).toNat)
      case atStart => exact .inl ⟨rfl, rfl, hide (by repeat (first | with_reducible exact Below.refl _ _ | with_reducible refine bl_plus ?_ | with_reducible refine bl_alloc ?_ _ | with_reducible refine bl_drew ?_ | with_reducible refine bl_drewN ?_ _))⟩
      case round =>
        rcases hrel with ⟨rfl, rfl, HB⟩ | ⟨rfl, A9, c9, rfl, HS, HB⟩
        · obtain ⟨b5, o5, e5, hb5, hc5⟩ := HRD.out wr HB.out (by simp)
          injection e5 with e5
          injection e5 with e51 e52
          subst e51 e52
          obtain ⟨x0, x1, x2, x3, A6, c6, x4⟩ := hc5 0 (by simp)
          simp only [List.getElem_cons_zero, V.k, V.i, V.t, V.s, V.l, Nat.zero_mul, Nat.zero_add] at x0 x1 x2 x3 x4
          clear hc5
          go_wp2_with (at_builtin; go_loud (refine wpList_append_k rfl (.tmp 37) (.tmp 40) rfl rfl Tryz.underlying109 HIS.out.1 HIS.out.2.1 HIS.out.2.2.1 (by decide) rfl (by have := HIS.out.2.2.2; omega) W3.heap.size 0 (.slice none 0 0) [] [.string vs] (wr.heap.size + 1) rfl OwnK.empty rfl (by intro u hu; rw [List.mem_singleton.1 hu]; rfl) rfl (newN_cells (by simp)) (by omega) (by have := HB.out.size; simp only [World.size_alloc]; omega) ?_; intro v' w1 hown hgr hfr; obtain ⟨A9, c9, rfl, -⟩ := ownK_form hown; have HOW := hide hown; have HBW := hide (below_grown1 HB.out hgr (by repeat (first | with_reducible exact Below.refl _ _ | with_reducible refine bl_plus ?_ | with_reducible refine bl_alloc ?_ _ | with_reducible refine bl_drew ?_ | with_reducible refine bl_drewN ?_ _)) (fun k hk => by simp [Value.ownBlock] at hk)); clear hown hgr hfr))
          go_roundw
          case rel => exact .inr ⟨rfl, A9, c9, rfl, HOW, HBW⟩
          case measure => simp [intOf]
        · go_wp2
          exact HPO.out A9 c9 wr (ownK_low HS.out HW3.out.size) (below_chainT HW3.out HB.out)
    · have HAV := hide (HAVN.out hk3)
      have e3 : (vk == 3) = false := beq_eq_false_iff_ne.2 hk3
      clear HAV3 HAVN hk3
      go_upto_region 6 with (first
        | (go_at_call 46; refine (HBB.out _ ?hb1).mono ?_; (case hb1 => exact (by repeat (first | with_reducible exact Below.refl _ _ | with_reducible refine bl_plus ?_ | with_reducible refine bl_alloc ?_ _ | with_reducible refine bl_drew ?_ | with_reducible refine bl_drewN ?_ _))); rintro e w1 ⟨⟨b9, o9, e9, rfl⟩, hbl⟩; have HB1 := hide (below_chainT (w := W) (by repeat (first | with_reducible exact Below.refl _ _ | with_reducible refine bl_plus ?_ | with_reducible refine bl_alloc ?_ _ | with_reducible refine bl_drew ?_ | with_reducible refine bl_drewN ?_ _)) hbl); injection e9 with e9; injection e9 with e91 e92; subst e91 e92; have q4 := HBC.out _ HB1.out; have hb0 := Nat.lt_of_lt_of_le hlb HB1.out.size; clear hbl)
        | (go_at_call 155; refine (HGO.out _ HB1.out).mono ?_; rintro e w2 ⟨hbl, ⟨A7, c7, rfl, hL⟩⟩; have HB2 := hide (below_chainT HB1.out hbl); have HLL := hide hL; clear hbl hL))
      have HW3 := hide (bl_alloc HB2.out (.cells #[.int .i64 vk, .int .i64 vi, .int .i64 vt, .string vs, .slice A7 vl.length c7] 116))
      have HRDA := hide (bl_alloc (Below.refl w2.heap.size w2) (.cells #[.int .i64 vk, .int .i64 vi, .int .i64 vt, .string vs, .slice A7 vl.length c7] 116))
      generalize w2.alloc (.cells #[.int .i64 vk, .int .i64 vi, .int .i64 vt, .string vs, .slice A7 vl.length c7] 116) = W3 at *
      have HRD := hide (fun wr (hb : Below W3.heap.size W3 wr) => ((vsRd_lat HLL.out).below HRDA.out).below hb)
      clear HRDA HLL HBB HGO HBC HPS HPE HQ4
      go_wp2
      go_loopw [8, 30] (fun s8 i9 wr => ∃ (j : Nat) (out : List ByteArray), j ≤ vl.length ∧ i9 = .int .i64 j ∧ Hid (out = strVs (vl.take j)) ∧ Hid (OwnK 1 9 wr W3.heap.size s8 out.length (sV out)) ∧ Hid (Below W3.heap.size W3 wr)) (fun _ i9 _ => vl.length - (intOf i9).toNat)
      case atStart => exact ⟨0, [], Nat.zero_le _, rfl, hide (by simp [strVs]), hide OwnK.empty, hide (by repeat (first | with_reducible exact Below.refl _ _ | with_reducible refine bl_plus ?_ | with_reducible refine bl_alloc ?_ _ | with_reducible refine bl_drew ?_ | with_reducible refine bl_drewN ?_ _))⟩
      case round =>
        obtain ⟨j, out, hj, rfl, HO, HS, HB⟩ := hrel
        obtain ⟨A5, c5, rfl, hs4, hs5, hs6⟩ := ownK_form HS.out
        by_cases hlt : j < vl.length
        · obtain ⟨b5, o5, rfl, hb5, hc5⟩ := HRD.out wr HB.out (by omega)
          obtain ⟨x0, x1, x2, x3, A6, c6, x4⟩ := hc5 j hlt
          simp only [← Nat.add_assoc] at x0 x1 x2 x3 x4
          have i2 : (j : Int) < (vl.length : Int) := by omega
          have HSTY := hide (fun h => strVs_yes hlt h)
          have HSTN := hide (fun h => strVs_no hlt h)
          have hl5 : out.length < 1000000 := by
            have h1 := strVs_len (vl.take j)
            rw [List.length_take, ← HO.out] at h1
            omega
          clear hc5
          generalize vl[j] = v at *
          obtain ⟨vk2, vi2, vt2, vs2, vl2⟩ := v
          simp only [V.k, V.i, V.t, V.s, V.l] at x0 x1 x2 x3 x4 HSTY HSTN
          by_cases hk3 : vk2 = 3
          · have HX2 := hide (by rw [HSTY.out hk3, ← HO.out] : out ++ [vs2] = strVs (vl.take (j + 1)))
            subst hk3
            clear HSTY HSTN HO
            go_wp2_with (at_builtin; go_loud (refine wpList_append_k rfl (.tmp 37) (.tmp 40) rfl rfl Tryz.underlying109 HIS.out.1 HIS.out.2.1 HIS.out.2.2.1 (by decide) rfl (by have := HIS.out.2.2.2; omega) W3.heap.size out.length (.slice A5 out.length c5) (sV out) [.string vs2] (wr.heap.size + 1) rfl (ownK_below HS.out (by repeat (first | with_reducible exact Below.refl _ _ | with_reducible refine bl_plus ?_ | with_reducible refine bl_alloc ?_ _ | with_reducible refine bl_drew ?_ | with_reducible refine bl_drewN ?_ _))) rfl (by intro u hu; rw [List.mem_singleton.1 hu]; rfl) rfl (newN_cells (by simp)) hl5 (by have := HB.out.size; simp only [World.size_alloc]; omega) ?_; intro v' w1 hown hgr hfr; have HOW := hide hown; have HBW := hide (below_grown1 HB.out hgr (by repeat (first | with_reducible exact Below.refl _ _ | with_reducible refine bl_plus ?_ | with_reducible refine bl_alloc ?_ _ | with_reducible refine bl_drew ?_ | with_reducible refine bl_drewN ?_ _)) (fun k hk => (HS.out.lt k hk).1)); clear hown hgr hfr))
            go_roundw
            case rel => exact ⟨j + 1, out ++ [vs2], by omega, by go_num, HX2, hide (by rw [List.length_append, sV_snoc]; exact HOW.out), HBW⟩
            case measure => simp [intOf]; omega
          · have e3 : (vk2 == 3) = false := beq_eq_false_iff_ne.2 hk3
            have HX2 := hide (by rw [HSTN.out hk3]; exact HO.out : out = strVs (vl.take (j + 1)))
            clear hk3 HSTY HSTN
            go_wp2
            go_roundw
            case rel => exact ⟨j + 1, out, by omega, by go_num, HX2, hide (ownK_below HS.out (by repeat (first | with_reducible exact Below.refl _ _ | with_reducible refine bl_plus ?_ | with_reducible refine bl_alloc ?_ _ | with_reducible refine bl_drew ?_ | with_reducible refine bl_drewN ?_ _))), hide (below_chainT HB.out (by repeat (first | with_reducible exact Below.refl _ _ | with_reducible refine bl_plus ?_ | with_reducible refine bl_alloc ?_ _ | with_reducible refine bl_drew ?_ | with_reducible refine bl_drewN ?_ _)))⟩
            case measure => simp [intOf]; omega
        · obtain rfl : j = vl.length := by omega
          have hout := HO.out
          rw [List.take_length] at hout
          rw [HAV.out] at hout
          subst hout
          go_wp2
          exact HPO.out A5 c5 wr (ownK_low HS.out HW3.out.size) (below_chainT HW3.out HB.out)

end Go.Proofs.YtioppoaijehicaaGreatDoor
