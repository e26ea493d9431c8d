/-
  MEMORY AND WALKS: link's view of a right base: look.
-/
import Derived.Test.YtioppoaijehicaaGreatDoorLkd
import Derived.Test.YtioppoaijehicaaGreatDoorFte
import Derived.StillTailTactics
set_option linter.all false
namespace Go.Proofs.YtioppoaijehicaaGreatDoor
open Go.RowKit Go.Lib Go.Maps Go.WideElems Go.WideMaps

/-- The blocks of a view: over a bound, all different. -/
structure Gs (B gv ga gp gt gl : Nat) : Prop where
  v : B ≤ gv
  a : B ≤ ga
  p : B ≤ gp
  t : B ≤ gt
  l : B ≤ gl
  ap : ga ≠ gp
  at_ : ga ≠ gt
  al : ga ≠ gl
  pt : gp ≠ gt
  pl : gp ≠ gl
  tl : gt ≠ gl
  va : gv ≠ ga
  vp : gv ≠ gp
  vt : gv ≠ gt
  vl : gv ≠ gl

def vwCells (A : Option Addr) (m c ga gp gt gl : Nat) : Array Value := #[.slice A m c, .map (some ga), .map (some gp), .map (some gt), .map (some gl)]

/-- A view in memory. -/
structure Vw (l : List BK) (A : Option Addr) (c : Nat) (w0 W : World) (gv ga gp gt gl : Nat) (fa fp : Int → Option Nat) (Lt Ll : List (List UInt8 × Nat)) : Prop where
  gs : Gs w0.heap.size gv ga gp gt gl
  at_ : ∃ n D, NF ga W n D fa
  pg : ∃ n D, NF gp W n D fp
  ti : ∃ D, NT gt W Lt.length D (kpF Lt)
  al : ∃ D, NT gl W Ll.length D (kpF Ll)
  blk : Blk W gv 79 (vwCells A l.length c ga gp gt gl)
  bel : Below w0.heap.size w0 W
section
variable {l : List BK} {A : Option Addr} {c gv ga gp gt gl : Nat} {w0 W W' : World} {fa fp : Int → Option Nat} {Lt Ll : List (List UInt8 × Nat)}

theorem Vw.below (h : Vw l A c w0 W gv ga gp gt gl fa fp Lt Ll) (hb : Below W.heap.size W W') : Vw l A c w0 W' gv ga gp gt gl fa fp Lt Ll := by
  obtain ⟨G, ⟨n1, D1, h1⟩, ⟨n2, D2, h2⟩, ⟨D3, h3⟩, ⟨D4, h4⟩, h5, h6⟩ := h
  exact ⟨G, ⟨n1, D1, h1.below hb⟩, ⟨n2, D2, h2.below hb⟩, ⟨D3, h3.below hb⟩, ⟨D4, h4.below hb⟩, h5.below hb h5.lt, h6.trans (hb.mono h6.size)⟩

theorem Vw.toA (h : Vw l A c w0 W gv ga gp gt gl fa fp Lt Ll) (hg : W.grownBy W' (some ga)) {fa' : Int → Option Nat} (hn : ∃ n D, NF ga W' n D fa') : Vw l A c w0 W' gv ga gp gt gl fa' fp Lt Ll := by
  obtain ⟨G, -, ⟨n2, D2, h2⟩, ⟨D3, h3⟩, ⟨D4, h4⟩, h5, h6⟩ := h
  have ne : ∀ {x}, x ≠ ga → some x ≠ some ga := fun h e => h (Option.some.inj e)
  exact ⟨G, hn, ⟨n2, D2, h2.grown hg (ne (Ne.symm G.ap))⟩, ⟨D3, h3.grown hg (ne (Ne.symm G.at_))⟩, ⟨D4, h4.grown hg (ne (Ne.symm G.al))⟩, h5.grown hg (ne G.va), below_of_grown h6 hg G.a⟩

theorem Vw.toP (h : Vw l A c w0 W gv ga gp gt gl fa fp Lt Ll) (hg : W.grownBy W' (some gp)) {fp' : Int → Option Nat} (hn : ∃ n D, NF gp W' n D fp') : Vw l A c w0 W' gv ga gp gt gl fa fp' Lt Ll := by
  obtain ⟨G, ⟨n1, D1, h1⟩, -, ⟨D3, h3⟩, ⟨D4, h4⟩, h5, h6⟩ := h
  have ne : ∀ {x}, x ≠ gp → some x ≠ some gp := fun h e => h (Option.some.inj e)
  exact ⟨G, ⟨n1, D1, h1.grown hg (ne G.ap)⟩, hn, ⟨D3, h3.grown hg (ne (Ne.symm G.pt))⟩, ⟨D4, h4.grown hg (ne (Ne.symm G.pl))⟩, h5.grown hg (ne G.vp), below_of_grown h6 hg G.p⟩

theorem Vw.toT (h : Vw l A c w0 W gv ga gp gt gl fa fp Lt Ll) (hg : W.grownBy W' (some gt)) {Lt' : List (List UInt8 × Nat)} (hn : ∃ D, NT gt W' Lt'.length D (kpF Lt')) : Vw l A c w0 W' gv ga gp gt gl fa fp Lt' Ll := by
  obtain ⟨G, ⟨n1, D1, h1⟩, ⟨n2, D2, h2⟩, -, ⟨D4, h4⟩, h5, h6⟩ := h
  have ne : ∀ {x}, x ≠ gt → some x ≠ some gt := fun h e => h (Option.some.inj e)
  exact ⟨G, ⟨n1, D1, h1.grown hg (ne G.at_)⟩, ⟨n2, D2, h2.grown hg (ne G.pt)⟩, hn, ⟨D4, h4.grown hg (ne (Ne.symm G.tl))⟩, h5.grown hg (ne G.vt), below_of_grown h6 hg G.t⟩

theorem Vw.toL (h : Vw l A c w0 W gv ga gp gt gl fa fp Lt Ll) (hg : W.grownBy W' (some gl)) {Ll' : List (List UInt8 × Nat)} (hn : ∃ D, NT gl W' Ll'.length D (kpF Ll')) : Vw l A c w0 W' gv ga gp gt gl fa fp Lt Ll' := by
  obtain ⟨G, ⟨n1, D1, h1⟩, ⟨n2, D2, h2⟩, ⟨D3, h3⟩, -, h5, h6⟩ := h
  have ne : ∀ {x}, x ≠ gl → some x ≠ some gl := fun h e => h (Option.some.inj e)
  exact ⟨G, ⟨n1, D1, h1.grown hg (ne G.al)⟩, ⟨n2, D2, h2.grown hg (ne G.pl)⟩, ⟨D3, h3.grown hg (ne G.tl)⟩, hn, h5.grown hg (ne G.vl), below_of_grown h6 hg G.l⟩

theorem Vw.cells (h : Vw l A c w0 W gv ga gp gt gl fa fp Lt Ll) : W.cell? ⟨gv, 0, none⟩ = some (.slice A l.length c) ∧ W.cell? ⟨gv, 1, none⟩ = some (.map (some ga)) ∧ W.cell? ⟨gv, 2, none⟩ = some (.map (some gp)) ∧ W.cell? ⟨gv, 3, none⟩ = some (.map (some gt)) ∧ W.cell? ⟨gv, 4, none⟩ = some (.map (some gl)) ∧ gv < W.heap.size :=
  ⟨h.blk.cell 0, h.blk.cell 1, h.blk.cell 2, h.blk.cell 3, h.blk.cell 4, h.blk.lt⟩
end

/-- The view as it is made. -/
theorem vw_made (l : List BK) (A : Option Addr) (c : Nat) (w0 W : World) (hb : Below w0.heap.size w0 W) :
    Vw l A c w0 (((((W.alloc (.map #[] 0)).alloc (.map #[] 0)).alloc (.map #[] 0)).alloc (.map #[] 0)).alloc (.cells (vwCells A l.length c W.heap.size (W.heap.size + 1) (W.heap.size + 1 + 1) (W.heap.size + 1 + 1 + 1)) 79)) (W.heap.size + 1 + 1 + 1 + 1) W.heap.size (W.heap.size + 1) (W.heap.size + 1 + 1) (W.heap.size + 1 + 1 + 1) (fun _ => none) (fun _ => none) [] [] := by
  have hs := hb.size
  have a1 := nf_made W rfl
  have a2 := nf_made (g := W.heap.size + 1) (W.alloc (.map #[] 0)) (by simp)
  have a3 := nt_made (g := W.heap.size + 1 + 1) ((W.alloc (.map #[] 0)).alloc (.map #[] 0)) (by simp)
  have a4 := nt_made (g := W.heap.size + 1 + 1 + 1) (((W.alloc (.map #[] 0)).alloc (.map #[] 0)).alloc (.map #[] 0)) (by simp)
  refine ⟨⟨by omega, by omega, by omega, by omega, by omega, by omega, by omega, by omega, by omega, by omega, by omega, by omega, by omega, by omega, by omega⟩, ⟨_, _, a1.below (by repeat (first | with_reducible exact Below.refl _ _ | with_reducible refine bl_plus ?_ | with_reducible refine bl_alloc ?_ _ | with_reducible refine bl_drew ?_ | with_reducible refine bl_drewN ?_ _))⟩, ⟨_, _, a2.below (by repeat (first | with_reducible exact Below.refl _ _ | with_reducible refine bl_plus ?_ | with_reducible refine bl_alloc ?_ _ | with_reducible refine bl_drew ?_ | with_reducible refine bl_drewN ?_ _))⟩, ⟨_, a3.below (by repeat (first | with_reducible exact Below.refl _ _ | with_reducible refine bl_plus ?_ | with_reducible refine bl_alloc ?_ _ | with_reducible refine bl_drew ?_ | with_reducible refine bl_drewN ?_ _))⟩, ⟨_, a4.below (by repeat (first | with_reducible exact Below.refl _ _ | with_reducible refine bl_plus ?_ | with_reducible refine bl_alloc ?_ _ | with_reducible refine bl_drew ?_ | with_reducible refine bl_drewN ?_ _))⟩, ?_, below_chainT hb (by repeat (first | with_reducible exact Below.refl _ _ | with_reducible refine bl_plus ?_ | with_reducible refine bl_alloc ?_ _ | with_reducible refine bl_drew ?_ | with_reducible refine bl_drewN ?_ _))⟩
  have := Blk.new ((((W.alloc (.map #[] 0)).alloc (.map #[] 0)).alloc (.map #[] 0)).alloc (.map #[] 0)) 79 (vwCells A l.length c W.heap.size (W.heap.size + 1) (W.heap.size + 1 + 1) (W.heap.size + 1 + 1 + 1))
  rwa [show ((((W.alloc (.map #[] 0)).alloc (.map #[] 0)).alloc (.map #[] 0)).alloc (.map #[] 0)).heap.size = W.heap.size + 1 + 1 + 1 + 1 by simp] at this

theorem Right.pgs_dp {l : List BK} (R : Right l) {k : Int} (h : k ∈ pgs l) : Dp l k 1 := by
  rw [pgs_eq R.pos] at h
  have hp := R.pos
  have h3 : Dp l l[0].id 0 := by rw [R.good.ids.zero R.pos]; exact .root
  exact .kid (List.getElem_mem R.pos) h3 h

/-- Blocks between two sizes stand. -/
def Kin (lo : Nat) (W wr : World) : Prop := W.heap.size ≤ wr.heap.size ∧ ∀ k, lo ≤ k → k < W.heap.size → wr.heap[k]? = W.heap[k]?

theorem Kin.refl (lo : Nat) (W : World) : Kin lo W W := ⟨Nat.le_refl _, fun _ _ _ => rfl⟩

theorem Kin.below {lo : Nat} {W wr w' : World} (h : Kin lo W wr) (hb : Below wr.heap.size wr w') : Kin lo W w' := ⟨Nat.le_trans h.1 hb.size, fun k h1 h2 => (hb.block k (Nat.lt_of_lt_of_le h2 h.1)).trans (h.2 k h1 h2)⟩

theorem Kin.grown {lo g : Nat} {W wr w' : World} (h : Kin lo W wr) (hg : wr.grownBy w' (some g)) (hlt : g < lo) : Kin lo W w' := ⟨Nat.le_trans h.1 hg.size, fun k h1 h2 => (hg.block k (Nat.lt_of_lt_of_le h2 h.1) (fun e => by injection e with e; omega)).trans (h.2 k h1 h2)⟩

theorem cell_kin {lo g i : Nat} {W wr : World} (h : Kin lo W wr) (h1 : lo ≤ g) (h2 : g < W.heap.size) : wr.cell? ⟨g, i, none⟩ = W.cell? ⟨g, i, none⟩ := by
  unfold World.cell?
  rw [h.2 g h1 h2]

theorem IntsAt.kin {lo : Nat} {W wr : World} {A : Option Addr} {ns : List Int} (h : IntsAt W A ns) (hk : Kin lo W wr) (ha : ∀ a, A = some a → lo ≤ a.block) : IntsAt wr A ns := fun hl => by
  obtain ⟨b, o, hA, hb, hc⟩ := h hl
  refine ⟨b, o, hA, Nat.lt_of_lt_of_le hb hk.1, fun j hj => ?_⟩
  rw [cell_kin hk (ha _ hA) hb]
  exact hc j hj

theorem SAt.kin {lo : Nat} {W wr : World} {A : Option Addr} {ns : List ByteArray} (h : SAt W A ns) (hk : Kin lo W wr) (ha : ∀ a, A = some a → lo ≤ a.block) : SAt wr A ns := ⟨h.1, fun hl => by
  obtain ⟨b, o, hA, hb, hc⟩ := h.2 hl
  refine ⟨b, o, hA, Nat.lt_of_lt_of_le hb hk.1, fun j hj => ?_⟩
  rw [cell_kin hk (ha _ hA) hb]
  exact hc j hj⟩

theorem ownsRow_ints {w : World} {base c : Nat} {A : Option Addr} {n : Nat} {ns : List Int} (h : w.ownsRow base 3 1 (.slice A n c) n (ns.map iV)) (hn : ns.length = n) : IntsAt w A ns ∧ ∀ a, A = some a → base ≤ a.block := by
  rcases h.2 with ⟨hv, h0⟩ | ⟨g, cap, cur, hv, hg, hb, h1, h2, h3, h4⟩
  · injection hv with e1 _ e3
    subst e1
    exact ⟨fun hl => by omega, fun a e => by cases e⟩
  · injection hv with e1 _ e3
    subst e1
    refine ⟨fun hl => ⟨g, 0, rfl, (Array.getElem?_eq_some_iff.1 hb).1, fun j hj => ?_⟩, fun a e => by injection e with e; rw [← e]; exact hg⟩
    rw [Nat.zero_add, cell_of_row w g j cur _ (0, 0) hb]
    have h6 : (cur.toList.take (n * 1))[j]? = (ns.map iV)[j]? := by rw [h4]
    rw [List.getElem?_take_of_lt (by omega), List.getElem?_map, List.getElem?_eq_getElem hj] at h6
    rw [← Array.getElem?_toList, h6]
    rfl

theorem alsA_take_le (ps : List PR) (i : Nat) : (alsA (ps.take i)).length ≤ (alsA ps).length := by
  unfold alsA
  conv => rhs; rw [← List.take_append_drop i ps, List.flatMap_append, List.length_append]
  omega

theorem aPairs_len {l : List BK} (R : Right l) : ∀ S : List Int, (∀ p ∈ S, p ∈ pgs l) → (aPairs l S).length ≤ 20 * S.length
  | [], _ => Nat.le_refl _
  | p :: S, h => by
    have ih := aPairs_len R S (fun q hq => h q (by simp [hq]))
    obtain ⟨n, hn, -, rfl, -⟩ := R.pgs_mem (h p (by simp))
    have h1 := (als_small (R.ps _ (List.getElem_mem hn))).1
    unfold aPairs at ih ⊢
    rw [List.flatMap_cons, List.length_append, List.length_map, List.length_cons]
    have e : alOf l l[n].id = alsA l[n].ps := by unfold alOf; rw [bkOf_at R.good.ids hn]
    rw [e]
    omega

theorem foldT_list (s : ByteArray) : (foldT s).data.toList = foldL s.data.toList := rfl

/-- What look hands back. -/
def LookOut (l : List BK) (A : Option Addr) (c : Nat) (w0 : World) (e : Ending) (w' : World) : Prop :=
  Below w0.heap.size w0 w' ∧ ((baseErr l ≠ 0 ∧ e = .returned (.tuple #[.pointer none, .int .i64 (baseErr l)])) ∨
    (baseErr l = 0 ∧ ∃ gv ga gp gt gl fp, e = .returned (.tuple #[.pointer (some ⟨gv, 0, none⟩), .int .i64 0]) ∧ PgJ l (pgs l) fp ∧ Vw l A c w0 w' gv ga gp gt gl (ixOf l) fp (tPairs l (sortZ (pgs l))) (aPairs l (sortZ (pgs l)))))

theorem tPairs_snoc (l : List BK) (S : List Int) (p : Int) : tPairs l (S ++ [p]) = tPairs l S ++ [(foldL (txtL l p), p.toNat)] := by simp [tPairs]

theorem aPairs_snoc (l : List BK) (S : List Int) (p : Int) : aPairs l (S ++ [p]) = aPairs l S ++ (alOf l p).map fun a => (foldA a, p.toNat) := by simp [aPairs]

set_option maxHeartbeats 6400000 in
set_option maxRecDepth 100000 in
theorem look_any (l : List BK) (A : Option Addr) (c : Nat) (w : World) (hA : BsAt w A l) (hk : ∀ b ∈ l, ∀ k ∈ b.kids, In64 k) (hmt : MaxTold w) :
    Calls Tryz.prog 34 #[.slice A l.length c] w (LookOut l A c w) := by
  have HC := hide (check_any l A c w hA hk)
  have hlm := hA.1
  unfold maxLen at hlm
  have HPO1 : Hid (∀ w', baseErr l ≠ 0 → Below w.heap.size w w' → LookOut l A c w (.returned (.tuple #[.pointer none, .int .i64 (baseErr l)])) w') := hide fun w' h1 h2 => ⟨h2, .inl ⟨h1, rfl⟩⟩
  have HPO2 : Hid (∀ gv ga gp gt gl fp w', baseErr l = 0 → PgJ l (pgs l) fp → Vw l A c w w' gv ga gp gt gl (ixOf l) fp (tPairs l (sortZ (pgs l))) (aPairs l (sortZ (pgs l))) → LookOut l A c w (.returned (.tuple #[.pointer (some ⟨gv, 0, none⟩), .int .i64 0])) w') := hide fun gv ga gp gt gl fp w' h0 h1 h2 => ⟨h2.bel, .inr ⟨h0, gv, ga, gp, gt, gl, fp, rfl, h1, h2⟩⟩
  generalize LookOut l A c w = PO at *
  have HA := hide hA
  have HMT := hide hmt
  clear hA hk hmt
  by_cases he : baseErr l = 0
  · have HR := hide (right_of he)
    have HE := hide he
    rw [he] at HC
    clear HPO1 he
    have hl2 := HR.out.len
    have hmm := @run_makeMap Tryz.prog
    go_enter Tryz.func34, Tryz.ntmps34
    go_upto_region 4 with (go_at_call 23; refine HC.out.mono ?_; rintro e w1 ⟨rfl, hb1⟩)
    have HV0 := hide (vw_made l A c w w1 hb1)
    unfold vwCells at HV0
    go_upto_region 5 with (fail)
    have HB1 := hide hb1
    clear hb1 HC hmm
    generalize (((((w1.alloc (.map #[] 0)).alloc (.map #[] 0)).alloc (.map #[] 0)).alloc (.map #[] 0)).alloc (.cells #[.slice A l.length c, .map (some w1.heap.size), .map (some (w1.heap.size + 1)), .map (some (w1.heap.size + 1 + 1)), .map (some (w1.heap.size + 1 + 1 + 1))] 79)) = W2 at HV0 ⊢
    generalize w1.heap.size + 1 + 1 + 1 + 1 = gv at *
    generalize w1.heap.size + 1 + 1 + 1 = gl at *
    generalize w1.heap.size + 1 + 1 = gt at *
    generalize w1.heap.size + 1 = gp at *
    generalize w1.heap.size = ga at *
    go_wp2
    go_loopw [29] (fun i9 wr => ∃ j : Nat, j ≤ l.length ∧ i9 = .int .i64 j ∧ Hid (Vw l A c w wr gv ga gp gt gl (ixTo l j) (fun _ => none) [] [])) (fun i9 _ => l.length - (intOf i9).toNat)
    case atStart => exact ⟨0, Nat.zero_le _, rfl, hide (by rw [ixTo_zero]; exact HV0.out.below (by repeat (first | with_reducible exact Below.refl _ _ | with_reducible refine bl_plus ?_ | with_reducible refine bl_alloc ?_ _ | with_reducible refine bl_drew ?_ | with_reducible refine bl_drewN ?_ _)))⟩
    case round =>
      clear HV0
      obtain ⟨j, hj, rfl, HV⟩ := hrel
      by_cases hlt : j < l.length
      · obtain ⟨b, o, A1, c1, A2, c2, rfl, hlb, q0, q1, q2, q3, q4, -, -⟩ := HA.out.getB HV.out.bel hlt
        obtain ⟨v0, v1, v2, v3, v4, vlt⟩ := HV.out.cells
        obtain ⟨n0, D0, hN0⟩ := HV.out.at_
        have hN1 := hN0.tight (L := l.map BK.id) (fun x hx => by
          unfold ixTo at hx
          cases h9 : ixOf l x with
          | none => rw [h9] at hx; simp at hx
          | some n =>
            obtain ⟨h1, h2⟩ := ixOf_some h9
            exact ids_mem.2 ⟨n, h1, by rw [← idAt_get h1]; exact h2⟩)
        rw [List.length_map] at hN1
        have HN := hide hN1
        have hn9 : l.length < maxLen := by unfold maxLen; omega
        have h64 : In64 l[j].id := by have := HR.out.good.ids.bound hlt; unfold In64; omega
        have hkey : keyOf Tryz.prog 3 (.int .i64 l[j].id) = some (.int .i64 l[j].id) := keyOf_int_mk Tryz.underlying3 h64.wf
        have HIX := hide (ixTo_succ HR.out.good.ids hlt)
        have i1 : (j : Int) < (l.length : Int) := by omega
        have hj6 : j ≤ 1000000 := by omega
        clear hN0 hN1 h64
        generalize hx : l[j] = x at *
        clear hx
        obtain ⟨xi, xp, xk, xt, xs⟩ := x
        (try simp only at *)
        go_upto_region 8 with (fail)
        have HB7 := hide (Blk.new wr 82 #[.int .i64 xi, .int .i64 xp, .slice A1 xk.length c1, .string xt, .slice A2 xs.length c2])
        have HVX := hide (HV.out.below (bl_alloc (Below.refl _ _) (.cells #[.int .i64 xi, .int .i64 xp, .slice A1 xk.length c1, .string xt, .slice A2 xs.length c2] 82)))
        have HNX := hide (HN.out.below (bl_alloc (Below.refl _ _) (.cells #[.int .i64 xi, .int .i64 xp, .slice A1 xk.length c1, .string xt, .slice A2 xs.length c2] 82)))
        clear HV HN q0 q1 q2 q3 q4 hlb v0 v1 v2 v3 v4 vlt
        generalize wr.alloc (.cells #[.int .i64 xi, .int .i64 xp, .slice A1 xk.length c1, .string xt, .slice A2 xs.length c2] 82) = W3 at *
        generalize wr.heap.size = g7 at *
        obtain ⟨v0, v1, v2, v3, v4, vlt⟩ := HVX.out.cells
        have q0 := HB7.out.cell 0
        have hg7 := HB7.out.lt
        go_still_tail 7, (by kernel_rfl)
        change wpList _ _ _ _ _ W3.drew
        go_wp2_with (at_mapUpdate; go_loud (refine wpList_mapUpdate_own _ rfl _ _ _ 52 rfl 3 3 lawI Tryz.underlying52 _ ga l.length D0 rfl (HNX.out.below (by repeat (first | with_reducible exact Below.refl _ _ | with_reducible refine bl_plus ?_ | with_reducible refine bl_alloc ?_ _ | with_reducible refine bl_drew ?_ | with_reducible refine bl_drewN ?_ _))).own hn9 _ _ _ rfl rfl hkey _ [] (plainElem_int Tryz.underlying3 (wf_nat (d := j) hj6)) ?_; intro w3 hown3 hgr3; have HV3 := hide ((HVX.out.below (by repeat (first | with_reducible exact Below.refl _ _ | with_reducible refine bl_plus ?_ | with_reducible refine bl_alloc ?_ _ | with_reducible refine bl_drew ?_ | with_reducible refine bl_drewN ?_ _))).toA hgr3 ⟨_, _, (HNX.out.put (d := j) hown3)⟩); clear hown3 hgr3))
        go_roundw
        case rel => exact ⟨j + 1, by omega, by go_num, hide (by rw [← HIX.out]; exact HV3.out)⟩
        case measure => simp [intOf]; omega
      · obtain rfl : j = l.length := by omega
        have HV1 := hide HV.out
        rw [ixTo_all] at HV1
        clear HV
        obtain ⟨b, o, A1, c1, A2, c2, rfl, hlb, q0, q1, q2, q3, q4, hks, -⟩ := HA.out.getB HV1.out.bel HR.out.pos
        have i0 : (0 : Int) < (l.length : Int) := by have := HR.out.pos; omega
        have hpg := (pgs_eq HR.out.pos).symm
        rw [hpg] at q2 hks
        simp only [Nat.zero_mul, Nat.add_zero] at q2
        have HKS := hide hks
        have HPL := hide HR.out.pgs_len
        have HPR := hide (fun (j : Nat) (hj : j < (pgs l).length) => (⟨List.getElem_mem hj, HR.out.pgs_pos (List.getElem_mem hj), HR.out.pgs_dp (List.getElem_mem hj)⟩ : (pgs l)[j] ∈ pgs l ∧ (1 ≤ (pgs l)[j] ∧ (pgs l)[j] ≤ 1000000) ∧ Dp l (pgs l)[j] 1))
        clear hks q0 q1 q3 q4 hpg
        go_wp2
        go_loopw [47] (fun i9 wr => ∃ (j : Nat) (fp : Int → Option Nat), j ≤ (pgs l).length ∧ i9 = .int .i64 j ∧ Hid (PgJ l ((pgs l).take j) fp ∧ OnIds l fp) ∧ Hid (Vw l (some ⟨b, o, none⟩) c w wr gv ga gp gt gl (ixOf l) fp [] [])) (fun i9 _ => (pgs l).length - (intOf i9).toNat)
        case atStart => exact ⟨0, _, Nat.zero_le _, rfl, hide ⟨pgJ_start l, fun x hx => by simp at hx⟩, hide (HV1.out.below (by repeat (first | with_reducible exact Below.refl _ _ | with_reducible refine bl_plus ?_ | with_reducible refine bl_alloc ?_ _ | with_reducible refine bl_drew ?_ | with_reducible refine bl_drewN ?_ _)))⟩
        case round =>
          obtain ⟨j, fp, hj, rfl, HPG, HV⟩ := hrel
          by_cases hlt : j < (pgs l).length
          · obtain ⟨b2, o2, rfl, hb2, z0⟩ := ints_get (HKS.out.below HV.out.bel) hlt
            obtain ⟨hpm, hp1, hpd⟩ := HPR.out j hlt
            have HSTP := hide (fun (f2 : Int → Option Nat) (h : MkP l (pgs l)[j] (pgs l)[j].toNat fp f2) => (by rw [List.take_succ_eq_append_getElem hlt]; exact HPG.out.1.step HR.out (fun p hp => List.mem_of_mem_take hp) hpm h : PgJ l ((pgs l).take (j + 1)) f2))
            obtain ⟨np, Dp', hNp⟩ := HV.out.pg
            obtain ⟨na, Da, hNa⟩ := HV.out.at_
            have HMK := hide (fun W (hW : wr = W) => by subst hW; exact mark_any l (some ⟨b, o, none⟩) c w HA.out HR.out gv ga gp (.map (some gt)) (.map (some gl)) HV.out.gs.p HV.out.gs.ap HV.out.gs.vp (pgs l)[j].toNat (by omega) 40 (pgs l)[j] 1 np Dp' fp na Da wr (by omega) hpd hNp HPG.out.2 hNa HV.out.blk HV.out.bel)
            have i1 : (j : Int) < ((pgs l).length : Int) := by omega
            have i5 : (pgs l).length ≤ 500 := HPL.out
            obtain ⟨pn, hpn⟩ : ∃ pn : Nat, (pgs l)[j] = (pn : Int) := ⟨(pgs l)[j].toNat, by omega⟩
            clear hpm hp1 hpd hNp hNa
            generalize (pgs l)[j] = y at *
            subst hpn
            rw [Int.toNat_natCast] at HSTP HMK
            unfold MarkOut at HMK
            go_wp2_with (go_at_call 71; refine (HMK.out _ rfl).mono ?_; rintro e w9 ⟨rfl, ⟨n2, D2, f2, h1, h2, h3⟩, h4⟩; have HV2 := hide (HV.out.toP h4 ⟨n2, D2, h1⟩); have HM2 := hide h2; have HO2 := hide h3; clear h1 h2 h3 h4)
            go_roundw
            case rel => exact ⟨j + 1, f2, by omega, by go_num, hide ⟨HSTP.out f2 HM2.out, HO2.out⟩, HV2⟩
            case measure => simp [intOf]; omega
          · obtain rfl : j = (pgs l).length := by omega
            have HPF := hide (by have := HPG.out.1; rwa [List.take_length] at this : PgJ l (pgs l) fp)
            have HV2 := hide HV.out
            clear HPG HV HV1 HPR q2 hlb
            obtain ⟨b0, o0, A10, c10, A20, c20, e0, hlb, q0, q1, q2, q3, q4, hks, -⟩ := HA.out.getB HV2.out.bel HR.out.pos
            injection e0 with e0
            injection e0 with e01 e02
            subst e01 e02
            have hpg := (pgs_eq HR.out.pos).symm
            rw [hpg] at q2 hks
            simp only [Nat.zero_mul, Nat.add_zero] at q2
            have HKS := hide hks
            have i5 : (pgs l).length ≤ 500 := HPL.out
            have HGT := hide (show gt < wr.heap.size from by obtain ⟨D, h⟩ := HV2.out.ti; exact h.own.lt)
            have HGL := hide (show gl < wr.heap.size from by obtain ⟨D, h⟩ := HV2.out.al; exact h.own.lt)
            clear hks q0 q1 q3 q4 hpg
            obtain ⟨W4, hW4⟩ : ∃ W4 : World, W4 = wr := ⟨_, rfl⟩
            subst hW4
            go_upto_block 7 with (first
              | (go_at_call 72; refine (valuesI_any _ _ _ _).mono ?_; rintro e w' ⟨rfl, rfl⟩)
              | (go_at_call 29; go_loud (refine (sortedV_any W4.heap.size A10 c10 (pgs l) (by omega) w (W4.alloc (.cells #[.slice A10 (pgs l).length c10] 28)) HKS.out (bl_alloc HV2.out.bel _) (by simp) ((Blk.new W4 28 #[.slice A10 (pgs l).length c10]).cell 0)).mono ?_; rintro e w5 ⟨A5, c5, rfl, hrow, hbl⟩; have HRW := hide (ownsRow_ints hrow (sortZ_len _)); have HB5 := hide (below_chainT (bl_alloc (Below.refl W4.heap.size W4) _) hbl); clear hrow hbl)))
            have HK0 := hide (Kin.refl W4.heap.size w5)
            have HV3 := hide (HV2.out.below HB5.out)
            have HA5 := hide (fun (wr : World) (hk : Kin W4.heap.size w5 wr) => HRW.out.1.kin hk (fun a ha => by have := HRW.out.2 a ha; simp only [World.size_alloc] at this; omega))
            obtain ⟨S, hS⟩ : ∃ S, S = sortZ (pgs l) := ⟨_, rfl⟩
            have hSl : (pgs l).length = S.length := by rw [hS, sortZ_len]
            have HSM := hide (fun p => (by rw [hS]; exact sortZ_mem : p ∈ S ↔ p ∈ pgs l))
            rw [← hS] at HPO2 HA5
            clear HRW HB5 HKS q2 hlb HPL
            rw [hSl] at i5 ⊢
            clear hSl hS
            go_wp2
            go_loopw [63] (fun i9 wr => ∃ j : Nat, j ≤ S.length ∧ i9 = .int .i64 j ∧ Hid (Vw l (some ⟨b, o, none⟩) c w wr gv ga gp gt gl (ixOf l) fp (tPairs l (S.take j)) (aPairs l (S.take j))) ∧ Hid (Kin W4.heap.size w5 wr)) (fun i9 _ => S.length - (intOf i9).toNat)
            case atStart => exact ⟨0, Nat.zero_le _, rfl, hide (HV3.out.below (by repeat (first | with_reducible exact Below.refl _ _ | with_reducible refine bl_plus ?_ | with_reducible refine bl_alloc ?_ _ | with_reducible refine bl_drew ?_ | with_reducible refine bl_drewN ?_ _))), hide (HK0.out.below (by repeat (first | with_reducible exact Below.refl _ _ | with_reducible refine bl_plus ?_ | with_reducible refine bl_alloc ?_ _ | with_reducible refine bl_drew ?_ | with_reducible refine bl_drewN ?_ _)))⟩
            case round =>
              clear HV2 HV3 HK0
              obtain ⟨j, hj, rfl, HV, HKN⟩ := hrel
              by_cases hlt : j < S.length
              · obtain ⟨b2, o2, rfl, hb2, z0⟩ := ints_get (HA5.out _ HKN.out) hlt
                have hpm := (HSM.out S[j]).1 (List.getElem_mem hlt)
                have hp1 := HR.out.pgs_pos hpm
                obtain ⟨m, hm, -, hid, -⟩ := HR.out.pgs_mem hpm
                have HTS := hide (show tPairs l (S.take (j + 1)) = tPairs l (S.take j) ++ [(foldL (txtL l S[j]), S[j].toNat)] from by rw [List.take_succ_eq_append_getElem hlt, tPairs_snoc])
                have HAS := hide (show aPairs l (S.take (j + 1)) = aPairs l (S.take j) ++ (alOf l S[j]).map (fun a => (foldA a, S[j].toNat)) from by rw [List.take_succ_eq_append_getElem hlt, aPairs_snoc])
                have HLA := hide (aPairs_len HR.out (S.take j) (fun p hp => (HSM.out p).1 (List.mem_of_mem_take hp)))
                have HLT := hide (show (tPairs l (S.take j)).length = j from by unfold tPairs; rw [List.length_map, List.length_take]; omega)
                have h64 : In64 S[j] := by unfold In64; omega
                obtain ⟨na, Da, hNa⟩ := HV.out.at_
                have hlk := hNa.look h64
                rw [← hid, HR.out.good.ids.ix hm, hid] at hlk
                simp only [Option.getD_some] at hlk
                obtain ⟨b1, o1, A1, c1, A2, c2, e1, hlb, q0, q1, q2, q3, q4, hks, hps⟩ := HA.out.getB HV.out.bel hm
                injection e1 with e1
                injection e1 with e11 e12
                subst e11 e12
                obtain ⟨v0, v1, v2, v3, v4, vlt⟩ := HV.out.cells
                have i1 : (j : Int) < (S.length : Int) := by omega
                have im : (m : Int) < (l.length : Int) := by omega
                have hbk := bkOf_at HR.out.good.ids hm
                rw [hid] at hbk
                have HTX := hide (show txtL l S[j] = l[m].txt.data.toList from by unfold txtL; rw [hbk])
                have HAX := hide (show alOf l S[j] = alsA l[m].ps from by unfold alOf; rw [hbk])
                have HPS := hide (als_small (HR.out.ps _ (List.getElem_mem hm)))
                have HT2 := hide (HR.out.txt _ (List.getElem_mem hm))
                have HPP := hide (HR.out.ps _ (List.getElem_mem hm))
                have HPSA := hide hps
                obtain ⟨pn, hpn⟩ : ∃ pn : Nat, S[j] = (pn : Int) := ⟨S[j].toNat, by omega⟩
                have hpn6 : pn ≤ 1000000 := by omega
                clear hks hps hNa hpm hp1 hbk hid h64
                generalize S[j] = y at *
                subst hpn
                rw [Int.toNat_natCast] at HTS HAS
                generalize l[m] = x at *
                obtain ⟨xi, xp, xk, xt, xs⟩ := x
                (try simp only at *)
                go_upto_region 19 with (fail)
                have HB7 := hide (Blk.new wr 82 #[.int .i64 xi, .int .i64 xp, .slice A1 xk.length c1, .string xt, .slice A2 xs.length c2])
                have HV6 := hide (HV.out.below (bl_alloc (Below.refl _ _) (.cells #[.int .i64 xi, .int .i64 xp, .slice A1 xk.length c1, .string xt, .slice A2 xs.length c2] 82)))
                have HK6 := hide (HKN.out.below (bl_alloc (Below.refl _ _) (.cells #[.int .i64 xi, .int .i64 xp, .slice A1 xk.length c1, .string xt, .slice A2 xs.length c2] 82)))
                clear HV HKN q0 q1 q2 q3 q4 hlb v0 v1 v2 v3 v4 vlt hlk z0 hb2
                generalize wr.alloc (.cells #[.int .i64 xi, .int .i64 xp, .slice A1 xk.length c1, .string xt, .slice A2 xs.length c2] 82) = W6 at *
                generalize wr.heap.size = g7 at *
                have HM6 := hide (maxTold_below HMT.out HV6.out.bel)
                obtain ⟨v0, v1, v2, v3, v4, vlt⟩ := HV6.out.cells
                have q3 := HB7.out.cell 3
                have hg7 := HB7.out.lt
                have HF := hide (fun W (hb : Below W6.heap.size W6 W) => foldTitle_any xt W (maxTold_below HM6.out hb) (by have := HT2.out; omega))
                obtain ⟨D4, hD4⟩ := HV6.out.ti
                have HKP := hide (fun W (hb : Below W6.heap.size W6 W) => keep_any gt _ D4 _ (foldT xt) pn W (hD4.below hb) (by have := foldT_size xt; have := HT2.out; omega) (by have := HLT.out; omega) hpn6)
                have HNX := hide (fun (W w9 : World) (hb : Below W6.heap.size W6 W) (hg : W.grownBy w9 (some gt)) (D' : DataW Unit) (h : NT gt w9 ((tPairs l (S.take j)).length + 1) D' (kpF (tPairs l (S.take j) ++ [((foldT xt).data.toList, pn)]))) => (by
                  rw [HTS.out, HTX.out]
                  exact ⟨(HV6.out.below hb).toT hg ⟨D', by rw [List.length_append]; exact h⟩, (HK6.out.below hb).grown hg HGT.out, (HB7.out.below hb hg7).grown hg (fun e => by
                    have e := Option.some.inj e
                    have h9 := hD4.own
                    obtain ⟨es, clock, h8, -⟩ := h9
                    have h7 := HB7.out
                    unfold Blk at h7
                    rw [e, h8] at h7
                    cases h7)⟩ : Vw l (some ⟨b, o, none⟩) c w w9 gv ga gp gt gl (ixOf l) fp (tPairs l (S.take (j + 1))) (aPairs l (S.take j)) ∧ Kin W4.heap.size w5 w9 ∧ Blk w9 g7 82 #[.int .i64 xi, .int .i64 xp, .slice A1 xk.length c1, .string xt, .slice A2 xs.length c2]))
                unfold KeepOut at HKP
                clear hD4
                go_cut [] from 76 to 84 (fun wx => Hid (Vw l (some ⟨b, o, none⟩) c w wx gv ga gp gt gl (ixOf l) fp (tPairs l (S.take (j + 1))) (aPairs l (S.take j)) ∧ Kin W4.heap.size w5 wx ∧ Blk wx g7 82 #[.int .i64 xi, .int .i64 xp, .slice A1 xk.length c1, .string xt, .slice A2 xs.length c2]))
                case first =>
                  go_region_with (first
                    | (go_at_call 74; refine (HF.out _ ?hb1).mono ?_; (case hb1 => exact (by repeat (first | with_reducible exact Below.refl _ _ | with_reducible refine bl_plus ?_ | with_reducible refine bl_alloc ?_ _ | with_reducible refine bl_drew ?_ | with_reducible refine bl_drewN ?_ _))); rintro e w8 ⟨rfl, hbl⟩; obtain ⟨os1, n1, rfl⟩ := below_plus hbl; clear hbl)
                    | (go_at_call 73; refine (HKP.out _ ?hb2).mono ?_; (case hb2 => exact (by repeat (first | with_reducible exact Below.refl _ _ | with_reducible refine bl_plus ?_ | with_reducible refine bl_alloc ?_ _ | with_reducible refine bl_drew ?_ | with_reducible refine bl_drewN ?_ _))); rintro e w9 ⟨rfl, ⟨D', h1⟩, h2⟩; have HX9 := hide (HNX.out _ w9 (by repeat (first | with_reducible exact Below.refl _ _ | with_reducible refine bl_plus ?_ | with_reducible refine bl_alloc ?_ _ | with_reducible refine bl_drew ?_ | with_reducible refine bl_drewN ?_ _)) h2 D' h1); clear h1 h2))
                  all_goals
                    go_wp2
                    go_meet
                    case rel => exact HX9
                case rest =>
                have HV7 := hide hcut.out.1
                have HK7 := hide hcut.out.2.1
                have hb7 := hcut.out.2.2
                have q0 := hb7.cell 0
                have q1 := hb7.cell 1
                have q2 := hb7.cell 2
                have q3 := hb7.cell 3
                have q4 := hb7.cell 4
                have hg7 := hb7.lt
                have HAL := hide (fun W (hb : Below wc.heap.size wc W) => aliasesOf_any xi xp A1 xk.length c1 xt xs A2 c2 W (HPSA.out.below (HV7.out.bel.trans (hb.mono HV7.out.bel.size))) (namedP_of HPP.out).2 (fun p hp => (valErr_zero (propsErr_val HPP.out p hp)).2.2.1) (fun i => Nat.le_trans (alsA_take_le xs i) (by have := HPS.out.1; omega)))
                unfold AlOut at HAL
                have HLL := hide (show (aPairs l (S.take j)).length ≤ 10000 from by have := HLA.out; rw [List.length_take] at this; omega)
                rw [HAX.out] at HAS
                clear hcut hb7 HF HKP HNX HB7 HV6 HK6 HM6 v0 v1 v2 v3 v4 vlt HTX HAX HTS HPSA HPP HT2 HLA HLT
                generalize alsA xs = als at *
                obtain ⟨hal20, hal2⟩ := HPS.out
                have HA2K := hide hal2
                clear HPS hal2
                go_upto_block 9 with (go_at_call 75; refine (HAL.out _ ?hb3).mono ?_; (case hb3 => exact (by repeat (first | with_reducible exact Below.refl _ _ | with_reducible refine bl_plus ?_ | with_reducible refine bl_alloc ?_ _ | with_reducible refine bl_drew ?_ | with_reducible refine bl_drewN ?_ _))); rintro e w8 ⟨A8, c8, rfl, hrow, hbl⟩; have HRW := hide (sAt_own hrow).2.2.2; have HRB := hide (ownK_addr hrow); have HV8 := hide (HV7.out.below hbl); have HK8 := hide (HK7.out.below hbl); clear hrow hbl)
                have HKA := hide (Kin.refl wc.heap.size w8)
                have HGL2 := hide (show gl < wc.heap.size from by obtain ⟨D, h⟩ := HV7.out.al; exact h.own.lt)
                go_wp2
                go_loopw [88] (fun i8 wr => ∃ i : Nat, i ≤ als.length ∧ i8 = .int .i64 i ∧ Hid (Vw l (some ⟨b, o, none⟩) c w wr gv ga gp gt gl (ixOf l) fp (tPairs l (S.take (j + 1))) (aPairs l (S.take j) ++ (als.take i).map fun a => (foldA a, pn))) ∧ Hid (Kin W4.heap.size w5 wr) ∧ Hid (Kin wc.heap.size w8 wr)) (fun i8 _ => als.length - (intOf i8).toNat)
                case atStart => exact ⟨0, Nat.zero_le _, rfl, hide (by rw [List.take_zero, List.map_nil, List.append_nil]; exact HV8.out.below (by repeat (first | with_reducible exact Below.refl _ _ | with_reducible refine bl_plus ?_ | with_reducible refine bl_alloc ?_ _ | with_reducible refine bl_drew ?_ | with_reducible refine bl_drewN ?_ _))), hide (HK8.out.below (by repeat (first | with_reducible exact Below.refl _ _ | with_reducible refine bl_plus ?_ | with_reducible refine bl_alloc ?_ _ | with_reducible refine bl_drew ?_ | with_reducible refine bl_drewN ?_ _))), hide (HKA.out.below (by repeat (first | with_reducible exact Below.refl _ _ | with_reducible refine bl_plus ?_ | with_reducible refine bl_alloc ?_ _ | with_reducible refine bl_drew ?_ | with_reducible refine bl_drewN ?_ _)))⟩
                case round =>
                  clear HV8 HK8 HKA
                  obtain ⟨i, hi, rfl, HV, HKN, HKA⟩ := hrel
                  by_cases hlt2 : i < als.length
                  · obtain ⟨b5, o5, rfl, hb5, hc5⟩ := (HRW.out.kin HKA.out (fun a ha => HRB.out a ha)).2 (by omega)
                    have z1 := hc5 i hlt2
                    have HSZ := hide (HA2K.out als[i] (List.getElem_mem hlt2))
                    have HSN := hide (show (als.take (i + 1)).map (fun a => (foldA a, pn)) = (als.take i).map (fun a => (foldA a, pn)) ++ [((foldT als[i]).data.toList, pn)] from by rw [List.take_succ_eq_append_getElem hlt2, List.map_append]; rfl)
                    obtain ⟨v0, v1, v2, v3, v4, vlt⟩ := HV.out.cells
                    have i2 : (i : Int) < (als.length : Int) := by omega
                    have HM6 := hide (maxTold_below HMT.out HV.out.bel)
                    clear hc5
                    generalize als[i] = x at *
                    obtain ⟨W6, hW6⟩ : ∃ W6 : World, W6 = wr := ⟨_, rfl⟩
                    subst hW6
                    have HF := hide (fun W (hb : Below W6.heap.size W6 W) => foldTitle_any x W (maxTold_below HM6.out hb) (by have := HSZ.out; omega))
                    obtain ⟨D4, hD4⟩ := HV.out.al
                    have HKP := hide (fun W (hb : Below W6.heap.size W6 W) => keep_any gl _ D4 _ (foldT x) pn W (hD4.below hb) (by have := foldT_size x; have := HSZ.out; omega) (by rw [List.length_append, List.length_map, List.length_take]; have := HLL.out; omega) hpn6)
                    have HNX := hide (fun (W w9 : World) (hb : Below W6.heap.size W6 W) (hg : W.grownBy w9 (some gl)) (D' : DataW Unit) (h : NT gl w9 ((aPairs l (S.take j) ++ (als.take i).map fun a => (foldA a, pn)).length + 1) D' (kpF ((aPairs l (S.take j) ++ (als.take i).map fun a => (foldA a, pn)) ++ [((foldT x).data.toList, pn)]))) => (by
                      rw [HSN.out, ← List.append_assoc]
                      exact ⟨(HV.out.below hb).toL hg ⟨D', by rw [List.length_append]; exact h⟩, (HKN.out.below hb).grown hg HGL.out, (HKA.out.below hb).grown hg HGL2.out⟩ : Vw l (some ⟨b, o, none⟩) c w w9 gv ga gp gt gl (ixOf l) fp (tPairs l (S.take (j + 1))) (aPairs l (S.take j) ++ (als.take (i + 1)).map fun a => (foldA a, pn)) ∧ Kin W4.heap.size w5 w9 ∧ Kin wc.heap.size w8 w9))
                    unfold KeepOut at HKP
                    clear hD4
                    go_upto_region 23 with (fail)
                    go_region_with (first
                      | (go_at_call 74; refine (HF.out _ ?hb1).mono ?_; (case hb1 => exact (by repeat (first | with_reducible exact Below.refl _ _ | with_reducible refine bl_plus ?_ | with_reducible refine bl_alloc ?_ _ | with_reducible refine bl_drew ?_ | with_reducible refine bl_drewN ?_ _))); rintro e w7 ⟨rfl, hbl⟩; obtain ⟨os1, n1, rfl⟩ := below_plus hbl; clear hbl)
                      | (go_at_call 73; refine (HKP.out _ ?hb2).mono ?_; (case hb2 => exact (by repeat (first | with_reducible exact Below.refl _ _ | with_reducible refine bl_plus ?_ | with_reducible refine bl_alloc ?_ _ | with_reducible refine bl_drew ?_ | with_reducible refine bl_drewN ?_ _))); rintro e w9 ⟨rfl, ⟨D', h1⟩, h2⟩; have HX9 := hide (HNX.out _ w9 (by repeat (first | with_reducible exact Below.refl _ _ | with_reducible refine bl_plus ?_ | with_reducible refine bl_alloc ?_ _ | with_reducible refine bl_drew ?_ | with_reducible refine bl_drewN ?_ _)) h2 D' h1); clear h1 h2))
                    all_goals
                      clear HF HKP HNX
                      go_wp2
                      go_roundw
                      case rel => exact ⟨i + 1, by omega, by go_num, hide HX9.out.1, hide HX9.out.2.1, hide HX9.out.2.2⟩
                      case measure => simp [intOf]; omega
                  · obtain rfl : i = als.length := by omega
                    have hVN := HV.out
                    rw [List.take_length, ← HAS.out] at hVN
                    have HVN := hide hVN
                    clear hVN
                    go_wp2
                    go_roundw
                    case rel => exact ⟨j + 1, by omega, by go_num, HVN, HKN⟩
                    case measure => simp [intOf]; omega
              · obtain rfl : j = S.length := by omega
                have hVF := HV.out
                rw [List.take_length] at hVF
                have HF9 := hide (HPO2.out gv ga gp gt gl fp wr HE.out HPF.out hVF)
                clear hVF HV
                go_wp2
                (try exact HF9.out)
  · have HE := hide he
    have e0 : (baseErr l == 0) = false := beq_eq_false_iff_ne.2 he
    have HF := hide (fun w' => HPO1.out w' he)
    clear HPO2 he HE
    generalize baseErr l = E at *
    go_enter Tryz.func34, Tryz.ntmps34
    go_wp2_with (go_at_call 23; refine HC.out.mono ?_; rintro e w1 ⟨rfl, hb1⟩)
    exact HF.out _ hb1

end Go.Proofs.YtioppoaijehicaaGreatDoor
