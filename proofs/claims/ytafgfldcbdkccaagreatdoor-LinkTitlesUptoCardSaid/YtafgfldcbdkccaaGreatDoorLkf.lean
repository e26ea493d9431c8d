/-
  WALKS: what is asked of link's view: lead, isPage, block; Page; lookAt.
-/
import Derived.Test.YtafgfldcbdkccaaGreatDoorLke
set_option linter.all false
namespace Go.Proofs.YtafgfldcbdkccaaGreatDoor
open Go.RowKit Go.Lib Go.Maps Go.WideElems Go.WideMaps

/-- The view of a right base. -/
structure VW (l : List BK) (A : Option Addr) (c : Nat) (w0 W : World) (gv : Nat) : Prop where
  right : Right l
  at_ : BsAt w0 A l
  told : MaxTold w0
  some : ∃ ga gp gt gl fp, PgJ l (pgs l) fp ∧ Vw l A c w0 W gv ga gp gt gl (ixOf l) fp (tPairs l (sortZ (pgs l))) (aPairs l (sortZ (pgs l)))

theorem VW.below {l : List BK} {A : Option Addr} {c gv : Nat} {w0 W W' : World} (h : VW l A c w0 W gv) (hb : Below W.heap.size W W') : VW l A c w0 W' gv := by
  obtain ⟨R, hA, hm, ga, gp, gt, gl, fp, h1, h2⟩ := h
  exact ⟨R, hA, hm, ga, gp, gt, gl, fp, h1, h2.below hb⟩

theorem VW.bel {l : List BK} {A : Option Addr} {c gv : Nat} {w0 W : World} (h : VW l A c w0 W gv) : Below w0.heap.size w0 W := by
  obtain ⟨R, hA, hm, ga, gp, gt, gl, fp, h1, h2⟩ := h
  exact h2.bel

set_option maxHeartbeats 3200000 in
set_option maxRecDepth 100000 in
theorem lead_any (l : List BK) (A : Option Addr) (c gv : Nat) (w0 W : World) (hV : VW l A c w0 W gv) (s : ByteArray) (hs : s.size ≤ 1100000) :
    Calls Tryz.prog 12 #[.pointer (some ⟨gv, 0, none⟩), .string s] W fun e w' => e = .returned (.int .i64 (leadL l (foldL s.data.toList))) ∧ Below W.heap.size W w' := by
  have HF := hide (foldTitle_any s W (maxTold_below hV.told hV.bel) hs)
  have hfs := foldT_size s
  have R := hV.right
  have HV := hide hV
  rw [← foldT_list]
  clear hV
  generalize foldT s = z at *
  have hz : z.size ≤ maxLen := by unfold maxLen; omega
  have HLK := hide (fun W (h : VW l A c w0 W gv) => (by
    obtain ⟨-, hA, hm, ga, gp, gt, gl, fp, h1, h2⟩ := h
    obtain ⟨v0, v1, v2, v3, v4, vlt⟩ := h2.cells
    obtain ⟨D3, h3⟩ := h2.ti
    obtain ⟨D4, h4⟩ := h2.al
    exact ⟨gt, gl, v3, v4, vlt, h3.lookOk hz, h4.look hz⟩ : ∃ gt gl, W.cell? ⟨gv, 3, none⟩ = some (.map (some gt)) ∧ W.cell? ⟨gv, 4, none⟩ = some (.map (some gl)) ∧ gv < W.heap.size ∧ (Instr.lookup 49 (.map (some gt)) (.string z) true).run Tryz.prog W = .ok (.tuple #[.int .i64 ((kpF (tPairs l (sortZ (pgs l))) z.data.toList).getD 0 : Nat), .bool (kpF (tPairs l (sortZ (pgs l))) z.data.toList).isSome]) W ∧ (Instr.lookup 49 (.map (some gl)) (.string z) false).run Tryz.prog W = .ok (.int .i64 ((kpF (aPairs l (sortZ (pgs l))) z.data.toList).getD 0 : Nat)) W))
  cases hk : kpF (tPairs l (sortZ (pgs l))) z.data.toList with
  | some d =>
    have HL := hide (lead_title R hk)
    rw [hk] at HLK
    simp only [Option.isSome_some, Option.getD_some] at HLK
    clear hk R
    generalize leadL l z.data.toList = r at *
    go_enter Tryz.func12, Tryz.ntmps12
    go_upto_region 2 with (go_at_call 9; refine HF.out.mono ?_; rintro e w1 ⟨rfl, hbl⟩; have HB := hide hbl; clear hbl)
    obtain ⟨gt, gl, v3, v4, vlt, hlt, hll⟩ := HLK.out _ (HV.out.below HB.out)
    go_wp2
    go_ret
    rw [HL.out]
    exact ⟨rfl, HB.out⟩
  | none =>
    have HL := hide (lead_alias R hk)
    rw [hk] at HLK
    simp only [Option.isSome_none, Option.getD_none] at HLK
    clear hk R
    generalize leadL l z.data.toList = r at *
    generalize (kpF (aPairs l (sortZ (pgs l))) z.data.toList).getD 0 = r2 at *
    go_enter Tryz.func12, Tryz.ntmps12
    go_upto_region 2 with (go_at_call 9; refine HF.out.mono ?_; rintro e w1 ⟨rfl, hbl⟩; have HB := hide hbl; clear hbl)
    obtain ⟨gt, gl, v3, v4, vlt, hlt, hll⟩ := HLK.out _ (HV.out.below HB.out)
    go_wp2
    go_ret
    rw [HL.out]
    exact ⟨rfl, HB.out⟩

set_option maxHeartbeats 1600000 in
set_option maxRecDepth 100000 in
theorem isPage_any (l : List BK) (A : Option Addr) (c gv : Nat) (w0 W : World) (hV : VW l A c w0 W gv) (k : Int) (h64 : In64 k) :
    Calls Tryz.prog 38 #[.pointer (some ⟨gv, 0, none⟩), .int .i64 k] W fun e w' => e = .returned (.bool (isPg l k)) ∧ W = w' := by
  obtain ⟨R, hA, hm, ga, gp, gt, gl, fp, h1, h2⟩ := hV
  obtain ⟨v0, v1, v2, v3, v4, vlt⟩ := h2.cells
  obtain ⟨n, D, h3⟩ := h2.pg
  have hlk := h3.look h64
  have hpg := h1.isPage R k
  unfold isPg
  clear h1 h2 h3 hA hm R
  generalize (fp k).getD 0 = d at *
  by_cases h0 : k = 0
  · have hn : ¬ k ∈ pgs l := fun h => (hpg.2 h).1 h0
    rw [decide_eq_false hn]
    subst h0
    clear hpg hn hlk
    go_enter Tryz.func38, Tryz.ntmps38
    go_wp2
    go_ret
    exact ⟨rfl, rfl⟩
  · have e0 : (k != 0) = true := bne_iff_ne.2 h0
    by_cases hd : (d : Int) = k
    · have e1 : ((d : Int) == k) = true := beq_iff_eq.2 hd
      rw [decide_eq_true (hpg.1 ⟨h0, hd⟩)]
      clear hpg h0 hd
      go_enter Tryz.func38, Tryz.ntmps38
      go_wp2
      go_ret
      exact ⟨rfl, rfl⟩
    · have hn : ¬ k ∈ pgs l := fun h => hd (hpg.2 h).2
      have e1 : ((d : Int) == k) = false := beq_eq_false_iff_ne.2 hd
      rw [decide_eq_false hn]
      clear hpg hn hd h0
      go_enter Tryz.func38, Tryz.ntmps38
      go_wp2
      go_ret
      exact ⟨rfl, rfl⟩

/-- A block as a value. -/
def BlkOut (b : BK) (w0 W : World) (e : Ending) (w' : World) : Prop := ∃ A1 c1 A2 c2, e = .returned (.agg #[.int .i64 b.id, .int .i64 b.par, .slice A1 b.kids.length c1, .string b.txt, .slice A2 b.ps.length c2]) ∧ IntsAt w0 A1 b.kids ∧ PsAt w0 A2 b.ps ∧ Below W.heap.size W w'

set_option maxHeartbeats 1600000 in
set_option maxRecDepth 100000 in
theorem viewBlock_any (l : List BK) (A : Option Addr) (c gv : Nat) (w0 W : World) (hV : VW l A c w0 W gv) {m : Nat} (hm : m < l.length) :
    Calls Tryz.prog 39 #[.pointer (some ⟨gv, 0, none⟩), .int .i64 l[m].id] W (BlkOut l[m] w0 W) := by
  have hVb := hV.bel
  obtain ⟨R, hA, -, ga, gp, gt, gl, fp, h1, h2⟩ := hV
  have h64 : In64 l[m].id := by have := R.good.ids.bound hm; unfold In64; omega
  obtain ⟨b, o, A1, c1, A2, c2, rfl, hlb, q0, q1, q2, q3, q4, hks, hps⟩ := hA.getB hVb hm
  have him := R.good.ids.ix hm
  have im : (m : Int) < (l.length : Int) := by omega
  have HPO : Hid (∀ w', Below W.heap.size W w' → BlkOut l[m] w0 W (.returned (.agg #[.int .i64 l[m].id, .int .i64 l[m].par, .slice A1 l[m].kids.length c1, .string l[m].txt, .slice A2 l[m].ps.length c2])) w') := hide fun w' hb => ⟨A1, c1, A2, c2, rfl, hks, hps, hb⟩
  generalize BlkOut l[m] w0 W = PO at *
  have H2 := hide h2
  clear h1 h2 hks hps hA R hVb
  generalize l[m] = x at *
  obtain ⟨xi, xp, xk, xt, xs⟩ := x
  (try simp only at *)
  go_enter Tryz.func39, Tryz.ntmps39
  go_upto_region 1 with (fail)
  have HZ := hide (Blk.new W 55 #[.int .i64 0, .int .i64 0, .slice none 0 0, .string ⟨#[]⟩, .slice none 0 0])
  have HVX := hide (H2.out.below (bl_alloc (Below.refl _ _) (.cells #[.int .i64 0, .int .i64 0, .slice none 0 0, .string ⟨#[]⟩, .slice none 0 0] 55)))
  have HBX := hide (bl_alloc (Below.refl W.heap.size W) (.cells #[.int .i64 0, .int .i64 0, .slice none 0 0, .string ⟨#[]⟩, .slice none 0 0] 55))
  have HBB := hide (fun i => HBX.out.cell (p := ⟨b, i, none⟩) hlb)
  have q0 := (HBB.out _).trans q0
  have q1 := (HBB.out _).trans q1
  have q2 := (HBB.out _).trans q2
  have q3 := (HBB.out _).trans q3
  have q4 := (HBB.out _).trans q4
  generalize W.alloc (.cells #[.int .i64 0, .int .i64 0, .slice none 0 0, .string ⟨#[]⟩, .slice none 0 0] 55) = W3 at *
  have HGZ := hide (Nat.le_refl W.heap.size)
  generalize hgz : W.heap.size = gz at *
  obtain ⟨v0, v1, v2, v3, v4, vlt⟩ := HVX.out.cells
  obtain ⟨na, Da, hNa⟩ := HVX.out.at_
  have hlk := (hNa.below (bl_drew (Below.refl _ _))).look h64
  rw [him] at hlk
  simp only [Option.getD_some] at hlk
  have z0 := HZ.out.cell 0
  have z1 := HZ.out.cell 1
  have z2 := HZ.out.cell 2
  have z3 := HZ.out.cell 3
  have z4 := HZ.out.cell 4
  have hgl := HZ.out.lt
  have y0 := HZ.out.frozen 0
  have y1 := HZ.out.frozen 1
  have y2 := HZ.out.frozen 2
  have y3 := HZ.out.frozen 3
  have y4 := HZ.out.frozen 4
  clear hNa him
  go_still_tail 12, (by kernel_rfl)
  change wpList _ _ _ _ _ W3.drew
  go_wp2
  have HE5 := hide (show Blk (((((W3.setCell ⟨gz, 0, none⟩ (.int .i64 xi)).setCell ⟨gz, 1, none⟩ (.int .i64 xp)).setCell ⟨gz, 2, none⟩ (.slice A1 xk.length c1)).setCell ⟨gz, 3, none⟩ (.string xt)).setCell ⟨gz, 4, none⟩ (.slice A2 xs.length c2)) gz 55 #[.int .i64 xi, .int .i64 xp, .slice A1 xk.length c1, .string xt, .slice A2 xs.length c2] from ((((HZ.out.set_ 0 _).set_ 1 _).set_ 2 _).set_ 3 _).set_ 4 _)
  refine bodyPost_ret (results_cell_row (P := Tryz.prog) (by rfl) _ _ gz 55 #[.int .i64 xi, .int .i64 xp, .slice A1 xk.length c1, .string xt, .slice A2 xs.length c2] (0, 0) _ rfl HE5.out.drew Tryz.underlying55 rfl (by kernel_rfl)) rfl ?_
  exact HPO.out _ (by
    have h9 := ((((HBX.out.setCell (p := ⟨gz, 0, none⟩) HGZ.out (.int .i64 xi)).setCell (p := ⟨gz, 1, none⟩) HGZ.out (.int .i64 xp)).setCell (p := ⟨gz, 2, none⟩) HGZ.out (.slice A1 xk.length c1)).setCell (p := ⟨gz, 3, none⟩) HGZ.out (.string xt)).setCell (p := ⟨gz, 4, none⟩) HGZ.out (.slice A2 xs.length c2)
    subst hgz
    exact bl_drew h9)

/-! ### Page -/
def PgOut (r : Int × Int) (w : World) (e : Ending) (w' : World) : Prop := e = .returned (.tuple #[.int .i64 r.1, .int .i64 r.2]) ∧ Below w.heap.size w w'

set_option maxHeartbeats 1600000 in
set_option maxRecDepth 100000 in
theorem linkPage_any (l : List BK) (A : Option Addr) (c : Nat) (w : World) (hA : BsAt w A l) (hk : ∀ b ∈ l, ∀ k ∈ b.kids, In64 k) (hmt : MaxTold w) (s : ByteArray) (hs : s.size ≤ 1100000) (r : Int × Int) (hr : r = if baseErr l ≠ 0 then (0, baseErr l) else if leadL l (foldL s.data.toList) = 0 then (0, 7) else (leadL l (foldL s.data.toList), 0)) :
    Calls Tryz.prog 4 #[.slice A l.length c, .string s] w (PgOut r w) := by
  have HPO : Hid (∀ (a b : Int) w', r = (a, b) → Below w.heap.size w w' → PgOut r w (.returned (.tuple #[.int .i64 a, .int .i64 b])) w') := hide fun a b w' h1 h2 => by subst h1; exact ⟨rfl, h2⟩
  generalize PgOut r w = PO at *
  have HL := hide (look_any l A c w hA hk hmt)
  unfold LookOut at HL
  by_cases he : baseErr l = 0
  · have HVW := hide (fun w' gv ga gp gt gl fp (h1 : PgJ l (pgs l) fp) (h2 : Vw l A c w w' gv ga gp gt gl (ixOf l) fp (tPairs l (sortZ (pgs l))) (aPairs l (sortZ (pgs l)))) => lead_any l A c gv w w' ⟨right_of he, hA, hmt, ga, gp, gt, gl, fp, h1, h2⟩ s hs)
    rw [if_neg (fun h => h he)] at hr
    by_cases h0 : leadL l (foldL s.data.toList) = 0
    · rw [if_pos h0] at hr
      rw [h0] at HVW
      have HF := hide (fun w' => HPO.out 0 7 w' hr)
      clear h0 HPO hr
      go_enter Tryz.func4, Tryz.ntmps4
      go_upto_region 2 with (go_at_call 11; refine HL.out.mono ?_; rintro e w1 ⟨hbl, ⟨hne, -⟩ | ⟨-, gv, ga, gp, gt, gl, fp, rfl, h1, h2⟩⟩; exact absurd he hne; have HB := hide hbl; have HLD := hide (HVW.out _ _ _ _ _ _ _ h1 h2); clear hbl h1 h2)
      clear HVW HL
      go_wp2_with (go_at_call 12; refine HLD.out.mono ?_; rintro e w2 ⟨rfl, hb2⟩)
      exact HF.out _ (below_chainT HB.out hb2)
    · rw [if_neg h0] at hr
      have HF := hide (fun w' => HPO.out (leadL l (foldL s.data.toList)) 0 w' hr)
      clear HPO hr
      have e0 : (leadL l (foldL s.data.toList) == 0) = false := beq_eq_false_iff_ne.2 h0
      clear h0
      generalize leadL l (foldL s.data.toList) = L at *
      go_enter Tryz.func4, Tryz.ntmps4
      go_upto_region 2 with (go_at_call 11; refine HL.out.mono ?_; rintro e w1 ⟨hbl, ⟨hne, -⟩ | ⟨-, gv, ga, gp, gt, gl, fp, rfl, h1, h2⟩⟩; exact absurd he hne; have HB := hide hbl; have HLD := hide (HVW.out _ _ _ _ _ _ _ h1 h2); clear hbl h1 h2)
      clear HVW HL
      go_wp2_with (go_at_call 12; refine HLD.out.mono ?_; rintro e w2 ⟨rfl, hb2⟩)
      exact HF.out _ (below_chainT HB.out hb2)
  · rw [if_pos he] at hr
    have HF := hide (fun w' => HPO.out 0 (baseErr l) w' hr)
    clear HPO hr
    have e0 : (baseErr l == 0) = false := beq_eq_false_iff_ne.2 he
    have HE := hide he
    clear he
    generalize baseErr l = E at *
    go_enter Tryz.func4, Tryz.ntmps4
    go_wp2_with (go_at_call 11; refine HL.out.mono ?_; rintro e w1 ⟨hbl, ⟨-, rfl⟩ | ⟨h0, -⟩⟩; have HB := hide hbl; clear hbl; all_goals first | exact absurd h0 HE.out | skip)
    exact HF.out _ HB.out

end Go.Proofs.YtafgfldcbdkccaaGreatDoor
