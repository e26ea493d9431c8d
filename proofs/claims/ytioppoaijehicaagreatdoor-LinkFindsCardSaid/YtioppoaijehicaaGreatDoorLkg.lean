/-
  WALKS: what is asked of link's view: lead, isPage, block; Page; lookAt.
-/
import Derived.Test.YtioppoaijehicaaGreatDoorLke
import Derived.Deep.RegionLaw
set_option linter.all false
namespace Go.Proofs.YtioppoaijehicaaGreatDoor
open Go.RowKit Go.Lib Go.Maps Go.WideElems Go.WideMaps

/-- The view of a right base. -/
structure VW (l : List BK) (A : Option Addr) (c : Nat) (w0 W : World) (gv : Nat) : Prop where
  right : Right l
  at_ : BsAt w0 A l
  told : MaxTold w0
  some : ∃ ga gp gt gl fp, PgJ l (pgs l) fp ∧ Vw l A c w0 W gv ga gp gt gl (ixOf l) fp (tPairs l (sortZ (pgs l))) (aPairs l (sortZ (pgs l)))

theorem VW.below {l : List BK} {A : Option Addr} {c gv : Nat} {w0 W W' : World} (h : VW l A c w0 W gv) (hb : Below W.heap.size W W') : VW l A c w0 W' gv := by
  obtain ⟨R, hA, hm, ga, gp, gt, gl, fp, h1, h2⟩ := h
  exact ⟨R, hA, hm, ga, gp, gt, gl, fp, h1, h2.below hb⟩

theorem VW.bel {l : List BK} {A : Option Addr} {c gv : Nat} {w0 W : World} (h : VW l A c w0 W gv) : Below w0.heap.size w0 W := by
  obtain ⟨R, hA, hm, ga, gp, gt, gl, fp, h1, h2⟩ := h
  exact h2.bel

set_option maxHeartbeats 3200000 in
set_option maxRecDepth 100000 in
theorem lead_any (l : List BK) (A : Option Addr) (c gv : Nat) (w0 W : World) (hV : VW l A c w0 W gv) (s : ByteArray) (hs : s.size ≤ 1100000) :
    Calls Tryz.prog 110 #[.pointer (some ⟨gv, 0, none⟩), .string s] W fun e w' => e = .returned (.int .i64 (leadL l (foldL s.data.toList))) ∧ Below W.heap.size W w' := by
  have HF := hide (foldTitle_any s W (maxTold_below hV.told hV.bel) hs)
  have hfs := foldT_size s
  have R := hV.right
  have HV := hide hV
  rw [← foldT_list]
  clear hV
  generalize foldT s = z at *
  have hz : z.size ≤ maxLen := by unfold maxLen; omega
  have HLK := hide (fun W (h : VW l A c w0 W gv) => (by
    obtain ⟨-, hA, hm, ga, gp, gt, gl, fp, h1, h2⟩ := h
    obtain ⟨v0, v1, v2, v3, v4, vlt⟩ := h2.cells
    obtain ⟨D3, h3⟩ := h2.ti
    obtain ⟨D4, h4⟩ := h2.al
    exact ⟨gt, gl, v3, v4, vlt, h3.lookOk hz, h4.look hz⟩ : ∃ gt gl, W.cell? ⟨gv, 3, none⟩ = some (.map (some gt)) ∧ W.cell? ⟨gv, 4, none⟩ = some (.map (some gl)) ∧ gv < W.heap.size ∧ (Instr.lookup 77 (.map (some gt)) (.string z) true).run Tryz.prog W = .ok (.tuple #[.int .i64 ((kpF (tPairs l (sortZ (pgs l))) z.data.toList).getD 0 : Nat), .bool (kpF (tPairs l (sortZ (pgs l))) z.data.toList).isSome]) W ∧ (Instr.lookup 77 (.map (some gl)) (.string z) false).run Tryz.prog W = .ok (.int .i64 ((kpF (aPairs l (sortZ (pgs l))) z.data.toList).getD 0 : Nat)) W))
  cases hk : kpF (tPairs l (sortZ (pgs l))) z.data.toList with
  | some d =>
    have HL := hide (lead_title R hk)
    rw [hk] at HLK
    simp only [Option.isSome_some, Option.getD_some] at HLK
    clear hk R
    generalize leadL l z.data.toList = r at *
    go_enter Tryz.func110, Tryz.ntmps110
    go_upto_region 2 with (go_at_call 74; refine HF.out.mono ?_; rintro e w1 ⟨rfl, hbl⟩; have HB := hide hbl; clear hbl)
    obtain ⟨gt, gl, v3, v4, vlt, hlt, hll⟩ := HLK.out _ (HV.out.below HB.out)
    go_wp2
    go_ret
    rw [HL.out]
    exact ⟨rfl, HB.out⟩
  | none =>
    have HL := hide (lead_alias R hk)
    rw [hk] at HLK
    simp only [Option.isSome_none, Option.getD_none] at HLK
    clear hk R
    generalize leadL l z.data.toList = r at *
    generalize (kpF (aPairs l (sortZ (pgs l))) z.data.toList).getD 0 = r2 at *
    go_enter Tryz.func110, Tryz.ntmps110
    go_upto_region 2 with (go_at_call 74; refine HF.out.mono ?_; rintro e w1 ⟨rfl, hbl⟩; have HB := hide hbl; clear hbl)
    obtain ⟨gt, gl, v3, v4, vlt, hlt, hll⟩ := HLK.out _ (HV.out.below HB.out)
    go_wp2
    go_ret
    rw [HL.out]
    exact ⟨rfl, HB.out⟩

set_option maxHeartbeats 1600000 in
set_option maxRecDepth 100000 in
theorem isPage_any (l : List BK) (A : Option Addr) (c gv : Nat) (w0 W : World) (hV : VW l A c w0 W gv) (k : Int) (h64 : In64 k) :
    Calls Tryz.prog 80 #[.pointer (some ⟨gv, 0, none⟩), .int .i64 k] W fun e w' => e = .returned (.bool (isPg l k)) ∧ W = w' := by
  obtain ⟨R, hA, hm, ga, gp, gt, gl, fp, h1, h2⟩ := hV
  obtain ⟨v0, v1, v2, v3, v4, vlt⟩ := h2.cells
  obtain ⟨n, D, h3⟩ := h2.pg
  have hlk := h3.look h64
  have hpg := h1.isPage R k
  unfold isPg
  clear h1 h2 h3 hA hm R
  generalize (fp k).getD 0 = d at *
  by_cases h0 : k = 0
  · have hn : ¬ k ∈ pgs l := fun h => (hpg.2 h).1 h0
    rw [decide_eq_false hn]
    subst h0
    clear hpg hn hlk
    go_enter Tryz.func80, Tryz.ntmps80
    go_wp2
    go_ret
    exact ⟨rfl, rfl⟩
  · have e0 : (k != 0) = true := bne_iff_ne.2 h0
    by_cases hd : (d : Int) = k
    · have e1 : ((d : Int) == k) = true := beq_iff_eq.2 hd
      rw [decide_eq_true (hpg.1 ⟨h0, hd⟩)]
      clear hpg h0 hd
      go_enter Tryz.func80, Tryz.ntmps80
      go_wp2
      go_ret
      exact ⟨rfl, rfl⟩
    · have hn : ¬ k ∈ pgs l := fun h => hd (hpg.2 h).2
      have e1 : ((d : Int) == k) = false := beq_eq_false_iff_ne.2 hd
      rw [decide_eq_false hn]
      clear hpg hn hd h0
      go_enter Tryz.func80, Tryz.ntmps80
      go_wp2
      go_ret
      exact ⟨rfl, rfl⟩

/-- A block as a value. -/
def BlkOut (b : BK) (w0 W : World) (e : Ending) (w' : World) : Prop := ∃ A1 c1 A2 c2, e = .returned (.agg #[.int .i64 b.id, .int .i64 b.par, .slice A1 b.kids.length c1, .string b.txt, .slice A2 b.ps.length c2]) ∧ IntsAt w0 A1 b.kids ∧ PsAt w0 A2 b.ps ∧ Below W.heap.size W w'

/-! ### Page -/
def PgOut (r : Int × Int) (w : World) (e : Ending) (w' : World) : Prop := e = .returned (.tuple #[.int .i64 r.1, .int .i64 r.2]) ∧ Below w.heap.size w w'

end Go.Proofs.YtioppoaijehicaaGreatDoor
/-
  WALKS: lookAt; the names of a page, the program's way.
-/
namespace Go.Proofs.YtioppoaijehicaaGreatDoor
open Go.RowKit Go.Lib Go.Maps Go.WideElems Go.WideMaps

/-! ### lookAt -/
def LookAtOut (l : List BK) (A : Option Addr) (c : Nat) (w : World) (ks : List Int) (e : Ending) (w' : World) : Prop :=
  Below w.heap.size w w' ∧ ((baseErr l ≠ 0 ∧ e = .returned (.tuple #[.pointer none, .int .i64 (baseErr l)])) ∨
    (baseErr l = 0 ∧ ks.all (isPg l) = false ∧ e = .returned (.tuple #[.pointer none, .int .i64 7])) ∨
    (baseErr l = 0 ∧ ks.all (isPg l) = true ∧ ∃ gv, e = .returned (.tuple #[.pointer (some ⟨gv, 0, none⟩), .int .i64 0]) ∧ VW l A c w w' gv))

set_option maxHeartbeats 3200000 in
set_option maxRecDepth 100000 in
theorem lookAt_any (l : List BK) (A : Option Addr) (c : Nat) (w0 w : World) (hA : BsAt w A l) (hk : ∀ b ∈ l, ∀ k ∈ b.kids, In64 k) (hmt : MaxTold w) (ks : List Int) (Ak : Option Addr) (ck : Nat) (hks : IntsAt w Ak ks) (h64 : ∀ k ∈ ks, In64 k) (hkl : ks.length ≤ 1000) :
    Calls Tryz.prog 42 #[.slice A l.length c, .slice Ak ks.length ck] w (LookAtOut l A c w ks) := by
  have HL := hide (look_any l A c w hA hk hmt)
  unfold LookOut at HL
  have HK := hide hks
  have H64 := hide h64
  by_cases he : baseErr l = 0
  · have HVW := hide (fun w' gv ga gp gt gl fp (h1 : PgJ l (pgs l) fp) (h2 : Vw l A c w w' gv ga gp gt gl (ixOf l) fp (tPairs l (sortZ (pgs l))) (aPairs l (sortZ (pgs l)))) => (⟨right_of he, hA, hmt, ga, gp, gt, gl, fp, h1, h2⟩ : VW l A c w w' gv))
    have HP1 : Hid (∀ w', Below w.heap.size w w' → ks.all (isPg l) = false → LookAtOut l A c w ks (.returned (.tuple #[.pointer none, .int .i64 7])) w') := hide fun w' h1 h2 => ⟨h1, .inr (.inl ⟨he, h2, rfl⟩)⟩
    have HP2 : Hid (∀ gv w', VW l A c w w' gv → ks.all (isPg l) = true → LookAtOut l A c w ks (.returned (.tuple #[.pointer (some ⟨gv, 0, none⟩), .int .i64 0])) w') := hide fun gv w' h1 h2 => ⟨h1.bel, .inr (.inr ⟨he, h2, gv, rfl, h1⟩)⟩
    generalize LookAtOut l A c w ks = PO at *
    go_enter Tryz.func42, Tryz.ntmps42
    go_upto_region 2 with (go_at_call 34; refine HL.out.mono ?_; rintro e w1 ⟨hbl, ⟨hne, -⟩ | ⟨-, gv, ga, gp, gt, gl, fp, rfl, h1, h2⟩⟩; exact absurd he hne; have HV := hide (HVW.out _ _ _ _ _ _ _ h1 h2); clear hbl h1 h2)
    clear HVW HL
    obtain ⟨W1, hW1⟩ : ∃ W1 : World, W1 = w1 := ⟨_, rfl⟩
    subst hW1
    go_wp2
    go_loopw [20] (fun i9 wr => ∃ j : Nat, j ≤ ks.length ∧ i9 = .int .i64 j ∧ wr = W1 ∧ Hid ((ks.take j).all (isPg l) = true)) (fun i9 _ => ks.length - (intOf i9).toNat)
    case atStart => exact ⟨0, Nat.zero_le _, rfl, rfl, hide rfl⟩
    case round =>
      obtain ⟨j, hj, rfl, rfl, HJ⟩ := hrel
      by_cases hlt : j < ks.length
      · obtain ⟨b2, o2, rfl, hb2, z0⟩ := ints_get (HK.out.below HV.out.bel) hlt
        have HIP := hide (isPage_any l A c gv w wr HV.out ks[j] (H64.out _ (List.getElem_mem hlt)))
        have HSN := hide (show (ks.take (j + 1)).all (isPg l) = ((ks.take j).all (isPg l) && isPg l ks[j]) from by rw [List.take_succ_eq_append_getElem hlt, List.all_append]; simp)
        have HNO := hide (fun (h : isPg l ks[j] = false) => (List.all_eq_false.2 ⟨ks[j], List.getElem_mem hlt, by rw [h]; decide⟩ : ks.all (isPg l) = false))
        have i1 : (j : Int) < (ks.length : Int) := by omega
        generalize ks[j] = k at *
        cases hp : isPg l k with
        | true =>
          rw [hp] at HIP
          have HSN2 := hide (by rw [HSN.out, HJ.out, hp]; rfl : (ks.take (j + 1)).all (isPg l) = true)
          clear hp HSN HNO
          go_wp2_with (go_at_call 80; refine HIP.out.mono ?_; rintro e w' ⟨rfl, rfl⟩)
          go_roundw
          case rel => exact ⟨j + 1, by omega, by go_num, by trivial, HSN2⟩
          case measure => simp [intOf]; omega
        | false =>
          rw [hp] at HIP
          have HF := hide (HP1.out wr HV.out.bel (HNO.out hp))
          clear hp HSN HNO
          go_wp2_with (go_at_call 80; refine HIP.out.mono ?_; rintro e w' ⟨rfl, rfl⟩)
          exact HF.out
      · obtain rfl : j = ks.length := by omega
        have HF := hide (HP2.out gv wr HV.out (by have := HJ.out; rwa [List.take_length] at this))
        go_wp2
        exact HF.out
  · have HP1 : Hid (∀ w', Below w.heap.size w w' → LookAtOut l A c w ks (.returned (.tuple #[.pointer none, .int .i64 (baseErr l)])) w') := hide fun w' h1 => ⟨h1, .inl ⟨he, rfl⟩⟩
    generalize LookAtOut l A c w ks = PO at *
    have e0 : (baseErr l == 0) = false := beq_eq_false_iff_ne.2 he
    have e1 : (baseErr l != 0) = true := bne_iff_ne.2 he
    have HE := hide he
    clear he
    generalize baseErr l = E at *
    go_enter Tryz.func42, Tryz.ntmps42
    go_wp2_with (go_at_call 34; refine HL.out.mono ?_; rintro e w1 ⟨hbl, ⟨-, rfl⟩ | ⟨h0, -⟩⟩; have HB := hide hbl; clear hbl; all_goals first | exact absurd h0 HE.out | skip)
    exact HP1.out _ HB.out

/-! ### A set of strings -/
structure NU (g : Nat) (W : World) (n : Nat) (D : DataW Unit) (S : List (List UInt8)) : Prop where
  own : World.ownsMap W Tryz.prog 9 (plainElem (H := Unit) Tryz.prog 4) g n D
  at_ : ∀ x : List UInt8, D.atKey (.string x) (.lit (.bool false)) = .lit (.bool (decide (x ∈ S)))
section
variable {g n : Nat} {W W' : World} {D : DataW Unit} {S : List (List UInt8)}

theorem nu_made (W : World) (hg : g = W.heap.size) : NU g (W.alloc (.map #[] 0)) 0 (.map []) [] := by
  subst hg
  exact ⟨World.ownsMap_made W _ _ _, fun x => by simp [DataW.atKey]⟩

theorem NU.below (h : NU g W n D S) (hb : Below W.heap.size W W') : NU g W' n D S :=
  ⟨h.own.kept (row := none) ⟨hb.os, hb.tape, hb.output, hb.size, fun k hk _ => hb.block k hk⟩ (by simp), h.at_⟩

theorem NU.grown (h : NU g W n D S) {row : Option Nat} (hg : W.grownBy W' row) (hne : some g ≠ row) : NU g W' n D S := ⟨h.own.kept hg hne, h.at_⟩

theorem NU.put (h : NU g W n D S) {x : List UInt8} (ho : World.ownsMap W' Tryz.prog 9 (plainElem (H := Unit) Tryz.prog 4) g (n + 1) (D.put (.string x) (.lit (.bool true)))) : NU g W' (n + 1) (D.put (.string x) (.lit (.bool true))) (x :: S) := by
  refine ⟨ho, fun y => ?_⟩
  by_cases e : y = x
  · subst e
    rw [atKey_put_same h.own.isMap (by trivial)]
    simp
  · rw [atKey_put_other (fun e2 => e (by injection e2)), h.at_ y]
    simp [e]
end

/-! ### append in a region that draws its order -/
theorem step_append_v {K : Nat} {t e : TypeId} {i0 : TypeInfo} {z : Value} {ops : Array Oper} {o : Oper} {a : Act} {W : World} {KK : Act → World → Prop} {Q : Exit → Act → World → Prop} {E : Prop} (hgd : o.guard = none) (s x : Operand)
    (ho : o.op = .call { callee := .builtin .append, args := #[s, x], argTypes := #[t, t] }) (hty : o.type = t) (ht : Tryz.prog.underlying t = some (.slice e)) (hi : Tryz.prog.info? e = some i0) (hz0 : i0.zero = some z) (hz1 : i0.size = K) (hK : 0 < K) (hzs : z.cells.size = K) (hby : i0.bytes ≤ 1000)
    (base n q c2 : Nat) (v : Value) (xs news : List Value) (A2 : Option Addr) (hs : a.eval s = v) (hown : OwnK K e W base v n xs) (hn0 : 0 < n) (hl : news.length = q * K) (h1 : ∀ u ∈ news, u.oneCell' = true)
    (hx : a.eval x = .slice A2 q c2) (hsrc : 0 < q → ∃ ad, A2 = some ad ∧ ∀ j u, news[j]? = some u → W.cell? (ad.add j) = some u) (hn : n + q ≤ 1000000) (hbase : base ≤ W.heap.size)
    (h : ∀ v' w', OwnK K e w' base v' (n + q) (xs ++ news) → W.grownBy w' v.ownBlock → (v'.ownBlock = v.ownBlock ∨ ∃ g, v'.ownBlock = some g ∧ W.heap.size ≤ g) → KK (a.put o.dst v') w') :
    if Region.wanted o (yielded ops a.tmps) = true then Oper.wp Tryz.prog o a W KK Q else E := by
  have hw : Region.wanted o (yielded ops a.tmps) = true := by simp [Region.wanted, hgd]
  rw [if_pos hw]
  obtain ⟨v', w', hr, h2, h3, h4⟩ := run_append_v (c2 := c2) ht hi hz0 hz1 hK hzs hby hown hn0 hl hsrc h1 hn hbase
  unfold Oper.wp execOp
  simp only [ho, resolve, invoke, builtin, Sem.run_bind, Sem.run_pure, Result.andThen_ok, List.map_toArray, List.map_cons, List.map_nil, hs, hx, hty, hr]
  exact h v' w' h2 h3 h4

/-- What append reads of a row of strings. -/
theorem sAt_src {W : World} {A : Option Addr} {ss : List ByteArray} (h : SAt W A ss) : 0 < ss.length → ∃ ad, A = some ad ∧ ∀ j u, (sV ss)[j]? = some u → W.cell? (ad.add j) = some u := fun h0 => by
  obtain ⟨b, o, rfl, hb, hc⟩ := h.2 h0
  refine ⟨_, rfl, fun j u hj => ?_⟩
  have hlt : j < ss.length := by
    have := (List.getElem?_eq_some_iff.1 hj).1
    rwa [sV_len] at this
  have hadd : (⟨b, o, none⟩ : Addr).add j = ⟨b, o + j, none⟩ := by unfold Addr.add; split <;> simp_all
  rw [hadd, hc j hlt]
  unfold sV at hj
  rw [List.getElem?_map, List.getElem?_eq_getElem hlt] at hj
  exact hj

theorem sV_one (ss : List ByteArray) : ∀ u ∈ sV ss, u.oneCell' = true := fun u hu => by
  unfold sV at hu
  obtain ⟨x, -, rfl⟩ := List.mem_map.1 hu
  rfl

theorem Kin.high {lo : Nat} {W wr w' : World} (h : Kin lo W wr) {row : Option Nat} (hg : wr.grownBy w' row) (hv : ∀ k, row = some k → W.heap.size ≤ k) : Kin lo W w' :=
  ⟨Nat.le_trans h.1 hg.size, fun k h1 h2 => (hg.block k (Nat.lt_of_lt_of_le h2 h.1) (fun e => by have := hv k e.symm; omega)).trans (h.2 k h1 h2)⟩

theorem foldA_eq (a : ByteArray) : (foldT a).data.toList = foldA a := rfl

theorem ownK_clipL {K : Nat} {e : TypeId} {w : World} {base n c : Nat} {A : Option Addr} {xs : List Value} (h : OwnK K e w base (.slice A n c) n xs) : OwnK K e w base (.slice A n n) n xs := by
  obtain ⟨hl, A', c', hv, h1, h2, h3⟩ := h
  injection hv with e1 _ e3
  subst e1 e3
  refine ⟨hl, _, n, rfl, Nat.le_refl _, Nat.le_trans h1 h2, ?_⟩
  rcases h3 with ⟨h3, h4, h5⟩ | ⟨g, cur, h3, h4, h5, h6, h7⟩
  · exact .inl ⟨h3, h4, h4⟩
  · exact .inr ⟨g, cur, h3, h4, h5, Nat.le_trans (Nat.mul_le_mul_right K h1) h6, h7⟩

/-! ### names -/
theorem Right.als {l : List BK} (R : Right l) {m : Nat} (hm : m < l.length) : (alsA l[m].ps).length ≤ 20 ∧ ∀ a ∈ alsA l[m].ps, a.size ≤ 2000 := als_small (R.ps _ (List.getElem_mem hm))

/-! ### Names -/
noncomputable def nmRes (l : List BK) (k : Int) : List ByteArray × Int := if baseErr l ≠ 0 then ([], baseErr l) else if isPg l k = true then (namesOf l k, 0) else ([], 7)

def NmOut (r : List ByteArray × Int) (w : World) (e : Ending) (w' : World) : Prop := ∃ A c, e = .returned (.tuple #[.slice A r.1.length c, .int .i64 r.2]) ∧ r.1.length ≤ c ∧ SAt w' A r.1 ∧ Below w.heap.size w w'

theorem sAt_none (w : World) : SAt w none [] := ⟨Nat.zero_le _, fun h => absurd h (by simp)⟩

end Go.Proofs.YtioppoaijehicaaGreatDoor
