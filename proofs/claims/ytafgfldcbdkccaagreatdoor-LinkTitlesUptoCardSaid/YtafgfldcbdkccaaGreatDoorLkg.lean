/-
  WALKS: lookAt; the names of a page, the program's way.
-/
import Derived.Test.YtafgfldcbdkccaaGreatDoorLkf
import Derived.Deep.RegionLaw
set_option linter.all false
namespace Go.Proofs.YtafgfldcbdkccaaGreatDoor
open Go.RowKit Go.Lib Go.Maps Go.WideElems Go.WideMaps

/-! ### lookAt -/
def LookAtOut (l : List BK) (A : Option Addr) (c : Nat) (w : World) (ks : List Int) (e : Ending) (w' : World) : Prop :=
  Below w.heap.size w w' ∧ ((baseErr l ≠ 0 ∧ e = .returned (.tuple #[.pointer none, .int .i64 (baseErr l)])) ∨
    (baseErr l = 0 ∧ ks.all (isPg l) = false ∧ e = .returned (.tuple #[.pointer none, .int .i64 7])) ∨
    (baseErr l = 0 ∧ ks.all (isPg l) = true ∧ ∃ gv, e = .returned (.tuple #[.pointer (some ⟨gv, 0, none⟩), .int .i64 0]) ∧ VW l A c w w' gv))

set_option maxHeartbeats 3200000 in
set_option maxRecDepth 100000 in
theorem lookAt_any (l : List BK) (A : Option Addr) (c : Nat) (w0 w : World) (hA : BsAt w A l) (hk : ∀ b ∈ l, ∀ k ∈ b.kids, In64 k) (hmt : MaxTold w) (ks : List Int) (Ak : Option Addr) (ck : Nat) (hks : IntsAt w Ak ks) (h64 : ∀ k ∈ ks, In64 k) (hkl : ks.length ≤ 1000) :
    Calls Tryz.prog 15 #[.slice A l.length c, .slice Ak ks.length ck] w (LookAtOut l A c w ks) := by
  have HL := hide (look_any l A c w hA hk hmt)
  unfold LookOut at HL
  have HK := hide hks
  have H64 := hide h64
  by_cases he : baseErr l = 0
  · have HVW := hide (fun w' gv ga gp gt gl fp (h1 : PgJ l (pgs l) fp) (h2 : Vw l A c w w' gv ga gp gt gl (ixOf l) fp (tPairs l (sortZ (pgs l))) (aPairs l (sortZ (pgs l)))) => (⟨right_of he, hA, hmt, ga, gp, gt, gl, fp, h1, h2⟩ : VW l A c w w' gv))
    have HP1 : Hid (∀ w', Below w.heap.size w w' → ks.all (isPg l) = false → LookAtOut l A c w ks (.returned (.tuple #[.pointer none, .int .i64 7])) w') := hide fun w' h1 h2 => ⟨h1, .inr (.inl ⟨he, h2, rfl⟩)⟩
    have HP2 : Hid (∀ gv w', VW l A c w w' gv → ks.all (isPg l) = true → LookAtOut l A c w ks (.returned (.tuple #[.pointer (some ⟨gv, 0, none⟩), .int .i64 0])) w') := hide fun gv w' h1 h2 => ⟨h1.bel, .inr (.inr ⟨he, h2, gv, rfl, h1⟩)⟩
    generalize LookAtOut l A c w ks = PO at *
    go_enter Tryz.func15, Tryz.ntmps15
    go_upto_region 2 with (go_at_call 11; refine HL.out.mono ?_; rintro e w1 ⟨hbl, ⟨hne, -⟩ | ⟨-, gv, ga, gp, gt, gl, fp, rfl, h1, h2⟩⟩; exact absurd he hne; have HV := hide (HVW.out _ _ _ _ _ _ _ h1 h2); clear hbl h1 h2)
    clear HVW HL
    obtain ⟨W1, hW1⟩ : ∃ W1 : World, W1 = w1 := ⟨_, rfl⟩
    subst hW1
    go_wp2
    go_loopw [20] (fun i9 wr => ∃ j : Nat, j ≤ ks.length ∧ i9 = .int .i64 j ∧ wr = W1 ∧ Hid ((ks.take j).all (isPg l) = true)) (fun i9 _ => ks.length - (intOf i9).toNat)
    case atStart => exact ⟨0, Nat.zero_le _, rfl, rfl, hide rfl⟩
    case round =>
      obtain ⟨j, hj, rfl, rfl, HJ⟩ := hrel
      by_cases hlt : j < ks.length
      · obtain ⟨b2, o2, rfl, hb2, z0⟩ := ints_get (HK.out.below HV.out.bel) hlt
        have HIP := hide (isPage_any l A c gv w wr HV.out ks[j] (H64.out _ (List.getElem_mem hlt)))
        have HSN := hide (show (ks.take (j + 1)).all (isPg l) = ((ks.take j).all (isPg l) && isPg l ks[j]) from by rw [List.take_succ_eq_append_getElem hlt, List.all_append]; simp)
        have HNO := hide (fun (h : isPg l ks[j] = false) => (List.all_eq_false.2 ⟨ks[j], List.getElem_mem hlt, by rw [h]; decide⟩ : ks.all (isPg l) = false))
        have i1 : (j : Int) < (ks.length : Int) := by omega
        generalize ks[j] = k at *
        cases hp : isPg l k with
        | true =>
          rw [hp] at HIP
          have HSN2 := hide (by rw [HSN.out, HJ.out, hp]; rfl : (ks.take (j + 1)).all (isPg l) = true)
          clear hp HSN HNO
          go_wp2_with (go_at_call 38; refine HIP.out.mono ?_; rintro e w' ⟨rfl, rfl⟩)
          go_roundw
          case rel => exact ⟨j + 1, by omega, by go_num, by trivial, HSN2⟩
          case measure => simp [intOf]; omega
        | false =>
          rw [hp] at HIP
          have HF := hide (HP1.out wr HV.out.bel (HNO.out hp))
          clear hp HSN HNO
          go_wp2_with (go_at_call 38; refine HIP.out.mono ?_; rintro e w' ⟨rfl, rfl⟩)
          exact HF.out
      · obtain rfl : j = ks.length := by omega
        have HF := hide (HP2.out gv wr HV.out (by have := HJ.out; rwa [List.take_length] at this))
        go_wp2
        exact HF.out
  · have HP1 : Hid (∀ w', Below w.heap.size w w' → LookAtOut l A c w ks (.returned (.tuple #[.pointer none, .int .i64 (baseErr l)])) w') := hide fun w' h1 => ⟨h1, .inl ⟨he, rfl⟩⟩
    generalize LookAtOut l A c w ks = PO at *
    have e0 : (baseErr l == 0) = false := beq_eq_false_iff_ne.2 he
    have e1 : (baseErr l != 0) = true := bne_iff_ne.2 he
    have HE := hide he
    clear he
    generalize baseErr l = E at *
    go_enter Tryz.func15, Tryz.ntmps15
    go_wp2_with (go_at_call 11; refine HL.out.mono ?_; rintro e w1 ⟨hbl, ⟨-, rfl⟩ | ⟨h0, -⟩⟩; have HB := hide hbl; clear hbl; all_goals first | exact absurd h0 HE.out | skip)
    exact HP1.out _ HB.out

/-! ### A set of strings -/
structure NU (g : Nat) (W : World) (n : Nat) (D : DataW Unit) (S : List (List UInt8)) : Prop where
  own : World.ownsMap W Tryz.prog 9 (plainElem (H := Unit) Tryz.prog 4) g n D
  at_ : ∀ x : List UInt8, D.atKey (.string x) (.lit (.bool false)) = .lit (.bool (decide (x ∈ S)))
section
variable {g n : Nat} {W W' : World} {D : DataW Unit} {S : List (List UInt8)}

theorem nu_made (W : World) (hg : g = W.heap.size) : NU g (W.alloc (.map #[] 0)) 0 (.map []) [] := by
  subst hg
  exact ⟨World.ownsMap_made W _ _ _, fun x => by simp [DataW.atKey]⟩

theorem NU.below (h : NU g W n D S) (hb : Below W.heap.size W W') : NU g W' n D S :=
  ⟨h.own.kept (row := none) ⟨hb.os, hb.tape, hb.output, hb.size, fun k hk _ => hb.block k hk⟩ (by simp), h.at_⟩

theorem NU.grown (h : NU g W n D S) {row : Option Nat} (hg : W.grownBy W' row) (hne : some g ≠ row) : NU g W' n D S := ⟨h.own.kept hg hne, h.at_⟩

set_option maxRecDepth 100000 in
theorem NU.look (h : NU g W n D S) {x : ByteArray} (hx : x.size ≤ maxLen) : (Instr.lookup 69 (.map (some g)) (.string x) false).run Tryz.prog W = .ok (.bool (decide (x.data.toList ∈ S))) W := by
  obtain ⟨v, ps, hr, hv⟩ := h.own.lookup lawT Tryz.underlying69 (Tryz.zeroValue4 W) (plainElem_bool Tryz.underlying4 false) (keyOf_string_mk Tryz.underlying9 hx)
  rw [h.at_ x.data.toList] at hv
  have : v = .bool (decide (x.data.toList ∈ S)) := by
    unfold plainElem at hv
    rw [Tryz.underlying4] at hv
    cases v <;> simp at hv
    rw [hv.1]
  rw [hr, this]

theorem NU.put (h : NU g W n D S) {x : List UInt8} (ho : World.ownsMap W' Tryz.prog 9 (plainElem (H := Unit) Tryz.prog 4) g (n + 1) (D.put (.string x) (.lit (.bool true)))) : NU g W' (n + 1) (D.put (.string x) (.lit (.bool true))) (x :: S) := by
  refine ⟨ho, fun y => ?_⟩
  by_cases e : y = x
  · subst e
    rw [atKey_put_same h.own.isMap (by trivial)]
    simp
  · rw [atKey_put_other (fun e2 => e (by injection e2)), h.at_ y]
    simp [e]
end

/-! ### append in a region that draws its order -/
theorem step_append_v {K : Nat} {t e : TypeId} {i0 : TypeInfo} {z : Value} {ops : Array Oper} {o : Oper} {a : Act} {W : World} {KK : Act → World → Prop} {Q : Exit → Act → World → Prop} {E : Prop} (hgd : o.guard = none) (s x : Operand)
    (ho : o.op = .call { callee := .builtin .append, args := #[s, x], argTypes := #[t, t] }) (hty : o.type = t) (ht : Tryz.prog.underlying t = some (.slice e)) (hi : Tryz.prog.info? e = some i0) (hz0 : i0.zero = some z) (hz1 : i0.size = K) (hK : 0 < K) (hzs : z.cells.size = K) (hby : i0.bytes ≤ 1000)
    (base n q c2 : Nat) (v : Value) (xs news : List Value) (A2 : Option Addr) (hs : a.eval s = v) (hown : OwnK K e W base v n xs) (hn0 : 0 < n) (hl : news.length = q * K) (h1 : ∀ u ∈ news, u.oneCell' = true)
    (hx : a.eval x = .slice A2 q c2) (hsrc : 0 < q → ∃ ad, A2 = some ad ∧ ∀ j u, news[j]? = some u → W.cell? (ad.add j) = some u) (hn : n + q ≤ 1000000) (hbase : base ≤ W.heap.size)
    (h : ∀ v' w', OwnK K e w' base v' (n + q) (xs ++ news) → W.grownBy w' v.ownBlock → (v'.ownBlock = v.ownBlock ∨ ∃ g, v'.ownBlock = some g ∧ W.heap.size ≤ g) → KK (a.put o.dst v') w') :
    if Region.wanted o (yielded ops a.tmps) = true then Oper.wp Tryz.prog o a W KK Q else E := by
  have hw : Region.wanted o (yielded ops a.tmps) = true := by simp [Region.wanted, hgd]
  rw [if_pos hw]
  obtain ⟨v', w', hr, h2, h3, h4⟩ := run_append_v (c2 := c2) ht hi hz0 hz1 hK hzs hby hown hn0 hl hsrc h1 hn hbase
  unfold Oper.wp execOp
  simp only [ho, resolve, invoke, builtin, Sem.run_bind, Sem.run_pure, Result.andThen_ok, List.map_toArray, List.map_cons, List.map_nil, hs, hx, hty, hr]
  exact h v' w' h2 h3 h4

/-- What append reads of a row of strings. -/
theorem sAt_src {W : World} {A : Option Addr} {ss : List ByteArray} (h : SAt W A ss) : 0 < ss.length → ∃ ad, A = some ad ∧ ∀ j u, (sV ss)[j]? = some u → W.cell? (ad.add j) = some u := fun h0 => by
  obtain ⟨b, o, rfl, hb, hc⟩ := h.2 h0
  refine ⟨_, rfl, fun j u hj => ?_⟩
  have hlt : j < ss.length := by
    have := (List.getElem?_eq_some_iff.1 hj).1
    rwa [sV_len] at this
  have hadd : (⟨b, o, none⟩ : Addr).add j = ⟨b, o + j, none⟩ := by unfold Addr.add; split <;> simp_all
  rw [hadd, hc j hlt]
  unfold sV at hj
  rw [List.getElem?_map, List.getElem?_eq_getElem hlt] at hj
  exact hj

theorem sV_one (ss : List ByteArray) : ∀ u ∈ sV ss, u.oneCell' = true := fun u hu => by
  unfold sV at hu
  obtain ⟨x, -, rfl⟩ := List.mem_map.1 hu
  rfl

theorem Kin.high {lo : Nat} {W wr w' : World} (h : Kin lo W wr) {row : Option Nat} (hg : wr.grownBy w' row) (hv : ∀ k, row = some k → W.heap.size ≤ k) : Kin lo W w' :=
  ⟨Nat.le_trans h.1 hg.size, fun k h1 h2 => (hg.block k (Nat.lt_of_lt_of_le h2 h.1) (fun e => by have := hv k e.symm; omega)).trans (h.2 k h1 h2)⟩

theorem foldA_eq (a : ByteArray) : (foldT a).data.toList = foldA a := rfl

theorem ownK_clipL {K : Nat} {e : TypeId} {w : World} {base n c : Nat} {A : Option Addr} {xs : List Value} (h : OwnK K e w base (.slice A n c) n xs) : OwnK K e w base (.slice A n n) n xs := by
  obtain ⟨hl, A', c', hv, h1, h2, h3⟩ := h
  injection hv with e1 _ e3
  subst e1 e3
  refine ⟨hl, _, n, rfl, Nat.le_refl _, Nat.le_trans h1 h2, ?_⟩
  rcases h3 with ⟨h3, h4, h5⟩ | ⟨g, cur, h3, h4, h5, h6, h7⟩
  · exact .inl ⟨h3, h4, h4⟩
  · exact .inr ⟨g, cur, h3, h4, h5, Nat.le_trans (Nat.mul_le_mul_right K h1) h6, h7⟩

/-! ### names -/
theorem Right.als {l : List BK} (R : Right l) {m : Nat} (hm : m < l.length) : (alsA l[m].ps).length ≤ 20 ∧ ∀ a ∈ alsA l[m].ps, a.size ≤ 2000 := als_small (R.ps _ (List.getElem_mem hm))

set_option maxHeartbeats 6400000 in
set_option maxRecDepth 100000 in
theorem viewNames_any (l : List BK) (A : Option Addr) (c gv : Nat) (w0 W : World) (hV : VW l A c w0 W gv) {m : Nat} (hm : m < l.length) :
    Calls Tryz.prog 16 #[.pointer (some ⟨gv, 0, none⟩), .int .i64 l[m].id] W (AlOut (namesOf l l[m].id) W) := by
  have HB := hide (viewBlock_any l A c gv w0 W hV hm)
  have hmt := hV.told
  have hbel := hV.bel
  have R := hV.right
  have hbk := bkOf_at R.good.ids hm
  have hal := R.als hm
  have h2 := R.txt _ (List.getElem_mem hm)
  have HPP := hide (R.ps _ (List.getElem_mem hm))
  unfold namesOf alOf
  rw [hbk]
  clear hbk R hV
  generalize l[m] = x at *
  obtain ⟨xi, xp, xk, xt, xs⟩ := x
  (try simp only at *)
  have HPO : Hid (∀ A c w', OwnK 1 9 w' W.heap.size (.slice A (ddN [] (xt :: alsA xs)).length c) (ddN [] (xt :: alsA xs)).length (sV (ddN [] (xt :: alsA xs))) → Below W.heap.size W w' → AlOut (ddN [] (xt :: alsA xs)) W (.returned (.slice A (ddN [] (xt :: alsA xs)).length c)) w') := hide fun A c w' h1 h2 => ⟨A, c, rfl, h1, h2⟩
  generalize AlOut (ddN [] (xt :: alsA xs)) W = PO at *
  obtain ⟨iS, hiS, hzS0, hzS1, hzS2⟩ := info_parts info_strL
  have HIS := hide (And.intro hiS (And.intro hzS0 (And.intro hzS1 hzS2)))
  have HMT := hide (fun W' (hb : Below W.heap.size W W') => maxTold_below (maxTold_below hmt hbel) hb)
  have HSZ := hide (show ∀ a ∈ xt :: alsA xs, a.size ≤ 2000 from fun a ha => by
    rcases List.mem_cons.1 ha with rfl | ha
    · exact h2
    · exact hal.2 a ha)
  have hal20 := hal.1
  have HBEL := hide hbel
  unfold BlkOut at HB
  have hmm := @run_makeMap Tryz.prog
  clear hiS hzS0 hzS1 hzS2 hal h2 hmt hbel
  go_enter Tryz.func16, Tryz.ntmps16
  go_upto_region 4 with (go_at_call 39; refine HB.out.mono ?_; rintro e w1 ⟨A1, c1, A2, c2, rfl, hk1, hps, hbl⟩; have HB1 := hide hbl; have HPS := hide hps; clear hbl hk1 hps)
  have HB5 := hide (show Blk ((w1.alloc (.cells #[.int .i64 xi, .int .i64 xp, .slice A1 xk.length c1, .string xt, .slice A2 xs.length c2] 55)).alloc (.map #[] 0)) w1.heap.size 55 #[.int .i64 xi, .int .i64 xp, .slice A1 xk.length c1, .string xt, .slice A2 xs.length c2] from (Blk.new w1 _ _).alloc _)
  have HNU := hide (nu_made (g := w1.heap.size + 1) (w1.alloc (.cells #[.int .i64 xi, .int .i64 xp, .slice A1 xk.length c1, .string xt, .slice A2 xs.length c2] 55)) (by simp))
  have HB2 := hide (bl_alloc (bl_alloc HB1.out (.cells #[.int .i64 xi, .int .i64 xp, .slice A1 xk.length c1, .string xt, .slice A2 xs.length c2] 55)) (.map #[] 0))
  have HGM := hide (show W.heap.size ≤ w1.heap.size + 1 from Nat.le_succ_of_le HB1.out.size)
  generalize (w1.alloc (.cells #[.int .i64 xi, .int .i64 xp, .slice A1 xk.length c1, .string xt, .slice A2 xs.length c2] 55)).alloc (.map #[] 0) = W2 at *
  generalize w1.heap.size + 1 = gm at *
  generalize w1.heap.size = g5 at *
  have q0 := HB5.out.cell 0
  have q1 := HB5.out.cell 1
  have q2 := HB5.out.cell 2
  have q3 := HB5.out.cell 3
  have q4 := HB5.out.cell 4
  have hg5 := HB5.out.lt
  have HALS := hide (fun W' (hb : Below W2.heap.size W2 W') => aliasesOf_any xi xp A1 xk.length c1 xt xs A2 c2 W' (HPS.out.below (HBEL.out.trans ((HB2.out.trans (hb.mono HB2.out.size)).mono HBEL.out.size))) (namedP_of HPP.out).2 (fun p hp => (valErr_zero (propsErr_val HPP.out p hp)).2.2.1) (fun i => Nat.le_trans (alsA_take_le xs i) (by omega)))
  unfold AlOut at HALS
  clear HB1 HB hmm
  generalize alsA xs = als at *
  obtain ⟨L, hL⟩ : ∃ L, L = xt :: als := ⟨_, rfl⟩
  rw [← hL] at HPO HSZ
  have HLE := hide hL
  have hl21 : L.length ≤ 21 := by rw [hL, List.length_cons]; omega
  clear hL
  go_cut [20, 21, 22] from 15 to 22 (fun s20 s21 s22 wx => ∃ (A9 : Option Addr) (c9 : Nat), s20 = .slice A9 L.length c9 ∧ s21 = .int .i64 L.length ∧ s22 = .int .i64 0 ∧ Hid (SAt wx A9 L) ∧ Hid (∀ a, A9 = some a → W2.heap.size ≤ a.block) ∧ Hid (Below W2.heap.size W2 wx))
  case first =>
   go_region_law (first
    | ((refine step_append_v rfl (.tmp 17) (.tmp 19) rfl rfl Tryz.underlying26 HIS.out.1 HIS.out.2.1 HIS.out.2.2.1 (by decide) rfl (by have := HIS.out.2.2.2; omega) W2.heap.size 1 als.length c8 (.slice (some ⟨W2.heap.size, 0, none⟩) 1 1) [.string xt] (sV als) A8 rfl ?own (by decide) (by rw [sV_len, Nat.mul_one]) (sV_one _) rfl ?src (by omega) (by simp only [World.size_alloc, plus_size, World.drew]; omega) ?_; (case src => first | exact sAt_src HRS.out | exact sAt_src (HRS.out.below (bl_alloc (Below.refl _ _) _)) | exact sAt_src (HRS.out.below (bl_drew (bl_alloc (Below.refl _ _) _)))); (case own => first | exact ownK_newL _ _ _ rfl rfl (by simp only [plus_size]; omega) | exact ownK_newL _ _ _ (by simp only [plus_size]) rfl (by simp only [plus_size]; omega) | exact ownK_plus (ownK_newL _ _ _ rfl rfl (Nat.le_refl _)) _ _)); intro v' w9 hown hgr hfr; have HBW := hide (show Below W2.heap.size W2 w9 from (show Below W2.heap.size W2 _ from (by repeat (first | with_reducible exact Below.refl _ _ | with_reducible refine bl_plus ?_ | with_reducible refine bl_alloc ?_ _ | with_reducible refine bl_drew ?_ | with_reducible refine bl_drewN ?_ _))).grown hgr (by simp only [World.size_alloc, plus_size, World.drew]; omega) (fun k hk => by have e9 : W2.heap.size = k := (by simpa [Value.ownBlock] using hk); omega)); rw [show 1 + als.length = (xt :: als).length from Nat.add_comm _ _, show [Value.string xt] ++ sV als = sV (xt :: als) from rfl, ← HLE.out] at hown; obtain ⟨A9, c9, rfl, -⟩ := ownK_form hown; have HRW := hide (sAt_own hown).2.2.2; have HRB := hide (ownK_addr hown); clear hown hgr hfr)
    | ((refine step_append_v rfl (.tmp 17) (.tmp 19) rfl rfl Tryz.underlying26 HIS.out.1 HIS.out.2.1 HIS.out.2.2.1 (by decide) rfl (by have := HIS.out.2.2.2; omega) W2.heap.size 1 als.length c8 (.slice (some ⟨W2.heap.size + os1.size, 0, none⟩) 1 1) [.string xt] (sV als) A8 rfl ?own (by decide) (by rw [sV_len, Nat.mul_one]) (sV_one _) rfl ?src (by omega) (by simp only [World.size_alloc, plus_size, World.drew]; omega) ?_; (case src => first | exact sAt_src HRS.out | exact sAt_src (HRS.out.below (bl_alloc (Below.refl _ _) _)) | exact sAt_src (HRS.out.below (bl_drew (bl_alloc (Below.refl _ _) _)))); (case own => first | exact ownK_newL _ _ _ rfl rfl (by simp only [plus_size]; omega) | exact ownK_newL _ _ _ (by simp only [plus_size]) rfl (by simp only [plus_size]; omega) | exact ownK_plus (ownK_newL _ _ _ rfl rfl (Nat.le_refl _)) _ _)); intro v' w9 hown hgr hfr; have HBW := hide (show Below W2.heap.size W2 w9 from (show Below W2.heap.size W2 _ from (by repeat (first | with_reducible exact Below.refl _ _ | with_reducible refine bl_plus ?_ | with_reducible refine bl_alloc ?_ _ | with_reducible refine bl_drew ?_ | with_reducible refine bl_drewN ?_ _))).grown hgr (by simp only [World.size_alloc, plus_size, World.drew]; omega) (fun k hk => by have e9 : W2.heap.size + os1.size = k := (by simpa [Value.ownBlock] using hk); omega)); rw [show 1 + als.length = (xt :: als).length from Nat.add_comm _ _, show [Value.string xt] ++ sV als = sV (xt :: als) from rfl, ← HLE.out] at hown; obtain ⟨A9, c9, rfl, -⟩ := ownK_form hown; have HRW := hide (sAt_own hown).2.2.2; have HRB := hide (ownK_addr hown); clear hown hgr hfr)
    | (go_simp; go_at_call 31; refine (HALS.out _ ?hb).mono ?_; (case hb => exact (by repeat (first | with_reducible exact Below.refl _ _ | with_reducible refine bl_plus ?_ | with_reducible refine bl_alloc ?_ _ | with_reducible refine bl_drew ?_ | with_reducible refine bl_drewN ?_ _))); rintro e w8 ⟨A8, c8, rfl, hrow, hbl⟩; have HRS := hide (sAt_own hrow).2.2.2; obtain ⟨os1, n1, rfl⟩ := below_plus hbl; clear hrow hbl))
   all_goals
    go_wp2
    go_meet
    case rel => exact ⟨A9, c9, rfl, rfl, rfl, HRW, HRB, HBW⟩
  case rest =>
    obtain ⟨A9, c9, rfl, rfl, rfl, HRW, HRB, HBW⟩ := hcut
    obtain ⟨w9, hw9⟩ : ∃ w9 : World, w9 = wc := ⟨_, rfl⟩
    subst hw9
    clear HALS HB5 q0 q1 q2 q3 q4 hg5 HPS HPP hal20
    have HS0 := hide (OwnK.empty (K := 1) (e := 9) (w := w9) (base := w9.heap.size))
    have HK0 := hide (Kin.refl W2.heap.size w9)
    have HB9 := hide (HB2.out.trans (HBW.out.mono HB2.out.size))
    have HN0 := hide (HNU.out.below HBW.out)
    have HGML := hide (show gm < W2.heap.size from HNU.out.own.lt)
    have HW9 := hide HBW.out.size
    clear HBW HNU
    go_wp2
    go_loopw [6, 22] (fun s6 i9 wr => ∃ (j : Nat) (out : List ByteArray) (S : List (List UInt8)) (D : DataW Unit), j ≤ L.length ∧ i9 = .int .i64 j ∧ Hid (NmJ L j out S) ∧ Hid (OwnK 1 9 wr w9.heap.size s6 out.length (sV out)) ∧ Hid (NU gm wr S.length D S) ∧ Hid (Below W.heap.size W wr) ∧ Hid (Kin W2.heap.size w9 wr)) (fun _ i9 _ => L.length - (intOf i9).toNat)
    case atStart => exact ⟨0, [], [], _, Nat.zero_le _, rfl, hide (nmJ_start L), hide (ownK_below HS0.out (by repeat (first | with_reducible exact Below.refl _ _ | with_reducible refine bl_plus ?_ | with_reducible refine bl_alloc ?_ _ | with_reducible refine bl_drew ?_ | with_reducible refine bl_drewN ?_ _))), hide (HN0.out.below (by repeat (first | with_reducible exact Below.refl _ _ | with_reducible refine bl_plus ?_ | with_reducible refine bl_alloc ?_ _ | with_reducible refine bl_drew ?_ | with_reducible refine bl_drewN ?_ _))), hide (below_chainT HB9.out (by repeat (first | with_reducible exact Below.refl _ _ | with_reducible refine bl_plus ?_ | with_reducible refine bl_alloc ?_ _ | with_reducible refine bl_drew ?_ | with_reducible refine bl_drewN ?_ _))), hide (HK0.out.below (by repeat (first | with_reducible exact Below.refl _ _ | with_reducible refine bl_plus ?_ | with_reducible refine bl_alloc ?_ _ | with_reducible refine bl_drew ?_ | with_reducible refine bl_drewN ?_ _)))⟩
    case round =>
      clear HS0 HK0 HB9 HN0
      obtain ⟨j, out, S, D, hj, rfl, HNJ, HOW, HN, HB, HK⟩ := hrel
      obtain ⟨A6, c6, rfl, hs4, hs5, hs6⟩ := ownK_form HOW.out
      by_cases hlt : j < L.length
      · obtain ⟨b5, o5, rfl, hb5, hc5⟩ := (HRW.out.kin HK.out (fun a ha => HRB.out a ha)).2 (by omega)
        have z1 := hc5 j hlt
        have hsz := HSZ.out L[j] (List.getElem_mem hlt)
        have HF := hide (foldTitle_any L[j] wr (HMT.out wr HB.out) (by omega))
        have HSK := hide (fun h => HNJ.out.skip hlt h)
        have HTK := hide (fun h => HNJ.out.take hlt h)
        have hfs := foldT_size L[j]
        have hol := HNJ.out.2
        have i1 : (j : Int) < (L.length : Int) := by omega
        clear hc5
        rw [← foldA_eq] at HSK HTK
        generalize L[j] = a at *
        have hzz : (foldT a).size ≤ maxLen := by unfold maxLen; omega
        generalize foldT a = z at *
        go_upto_region 8 with (go_at_call 9; refine HF.out.mono ?_; rintro e w2 ⟨rfl, hbl⟩; have HOW2 := hide (ownK_below HOW.out hbl); have HN2 := hide (HN.out.below hbl); have HB2' := hide (below_chainT HB.out hbl); have HK2 := hide (HK.out.below hbl); clear hbl)
        have hlk := HN2.out.look hzz
        clear HOW HN HB HK HF
        cases hd : decide (z.data.toList ∈ S) with
        | true =>
          rw [hd] at hlk
          have HR := hide (HSK.out (of_decide_eq_true hd))
          clear hd HSK HTK
          go_wp2
          go_roundw
          case rel => exact ⟨j + 1, out, S, D, by omega, by go_num, HR, HOW2, HN2, HB2', HK2⟩
          case measure => simp [intOf]; omega
        | false =>
          rw [hd] at hlk
          have HR := hide (HTK.out (of_decide_eq_false hd))
          have hkey : keyOf Tryz.prog 9 (.string z) = some (.string z.data.toList) := keyOf_string_mk Tryz.underlying9 hzz
          have hn9 : S.length < maxLen := by unfold maxLen; omega
          clear hd HSK HTK
          go_wp2_with (first
            | (at_mapUpdate; go_loud (refine wpList_mapUpdate_own _ rfl _ _ _ 69 rfl 9 4 lawT Tryz.underlying69 _ gm S.length D rfl HN2.out.own hn9 _ _ _ rfl rfl hkey _ [] (plainElem_bool Tryz.underlying4 true) ?_; intro w3 hown3 hgr3; have HN3 := hide (HN2.out.put hown3); have HOW3 := hide (HOW2.out.kept (w' := w3) (fun k hk => hgr3.block k (HOW2.out.lt k hk).2 (fun e => by injection e with e; have := (HOW2.out.lt k hk).1; have := HGML.out; have := HW9.out; omega))); have HB3 := hide (HB2'.out.grown hgr3 HB2'.out.size (fun k hk => by injection hk with hk; have := HGM.out; omega)); have HK3 := hide (HK2.out.grown hgr3 HGML.out); clear hown3 hgr3))
            | (at_builtin; go_loud (refine wpList_append_k rfl (.tmp 34) (.tmp 36) rfl rfl Tryz.underlying26 HIS.out.1 HIS.out.2.1 HIS.out.2.2.1 (by decide) rfl (by have := HIS.out.2.2.2; omega) w9.heap.size out.length (.slice A6 out.length c6) (sV out) [.string a] w3.heap.size rfl (ownK_below HOW3.out (bl_alloc (Below.refl _ _) _)) rfl (by intro u hu; rw [List.mem_singleton.1 hu]; rfl) rfl (newN_cells rfl) (by omega) (by have := HK3.out.1; simp only [World.size_alloc]; omega) ?_; intro v' w4 hown hgr hfr; have HOW4 := hide hown; have HB4 := hide (below_grown1 HB3.out hgr (bl_alloc (Below.refl _ _) _) (fun k hk => Nat.le_trans (Nat.le_trans HB2.out.size HW9.out) (HOW3.out.lt k hk).1)); have HK4 := hide ((HK3.out.below (bl_alloc (Below.refl _ _) _)).high hgr (fun k hk => (HOW3.out.lt k hk).1)); have HN4 := hide ((HN3.out.below (bl_alloc (Below.refl _ _) _)).grown hgr (fun e => by have h9 := (HOW3.out.lt _ e.symm).1; have := HGML.out; have := HW9.out; omega)); clear hown hgr hfr)))
          go_roundw
          case rel => exact ⟨j + 1, out ++ [a], z.data.toList :: S, _, by omega, by go_num, HR, hide (by rw [List.length_append, sV_snoc]; exact HOW4.out), HN4, HB4, HK4⟩
          case measure => simp [intOf]; omega
      · obtain rfl : j = L.length := by omega
        have HE := hide HNJ.out.end_
        have hout := HE.out
        have HF := hide (HPO.out A6 out.length wr (by rw [← hout]; exact ownK_low (ownK_clipL HOW.out) (Nat.le_trans HB2.out.size HW9.out)) HB.out)
        rw [← hout] at HF
        clear hout HE HNJ
        go_wp2
        exact HF.out

/-! ### Names -/
noncomputable def nmRes (l : List BK) (k : Int) : List ByteArray × Int := if baseErr l ≠ 0 then ([], baseErr l) else if isPg l k = true then (namesOf l k, 0) else ([], 7)

def NmOut (r : List ByteArray × Int) (w : World) (e : Ending) (w' : World) : Prop := ∃ A c, e = .returned (.tuple #[.slice A r.1.length c, .int .i64 r.2]) ∧ r.1.length ≤ c ∧ SAt w' A r.1 ∧ Below w.heap.size w w'

theorem sAt_none (w : World) : SAt w none [] := ⟨Nat.zero_le _, fun h => absurd h (by simp)⟩

set_option maxHeartbeats 3200000 in
set_option maxRecDepth 100000 in
theorem linkNames_any (l : List BK) (A : Option Addr) (c : Nat) (w : World) (hA : BsAt w A l) (hk : ∀ b ∈ l, ∀ k ∈ b.kids, In64 k) (hmt : MaxTold w) (k : Int) (h64 : In64 k) :
    Calls Tryz.prog 6 #[.slice A l.length c, .int .i64 k] w (NmOut (nmRes l k) w) := by
  have HLA := hide (lookAt_any l A c w (w.alloc (.cells #[.int .i64 k] 3)) (hA.below (bl_alloc (Below.refl _ _) _)) hk (maxTold_below hmt (bl_alloc (Below.refl _ _) _)) [k] (some ⟨w.heap.size, 0, none⟩) 1 (fun _ => ⟨w.heap.size, 0, rfl, by simp, fun j hj => by
    have h0 : j = 0 := by simp at hj; omega
    subst h0
    exact (Blk.new w 3 #[.int .i64 k]).cell 0⟩) (fun x hx => by rw [List.mem_singleton.1 hx]; exact h64) (by simp))
  unfold LookAtOut at HLA
  have hall : [k].all (isPg l) = isPg l k := by simp
  rw [hall] at HLA
  simp only [List.length_singleton] at HLA
  have HPO : Hid (∀ (A : Option Addr) (c : Nat) (ns : List ByteArray) (e : Int) w', nmRes l k = (ns, e) → ns.length ≤ c → SAt w' A ns → Below w.heap.size w w' → NmOut (nmRes l k) w (.returned (.tuple #[.slice A ns.length c, .int .i64 e])) w') := hide fun A c ns e w' h1 h2 h3 h4 => by rw [h1]; exact ⟨A, c, rfl, h2, h3, h4⟩
  by_cases he : baseErr l = 0
  · cases hp : isPg l k with
    | true =>
      have hr : nmRes l k = (namesOf l k, 0) := by unfold nmRes; rw [if_neg (fun h => h he), if_pos hp]
      have hm : k ∈ pgs l := of_decide_eq_true hp
      obtain ⟨m, hml, -, hid, -⟩ := (right_of he).pgs_mem hm
      have HNM := hide (fun W gv (hV : VW l A c (w.alloc (.cells #[.int .i64 k] 3)) W gv) => by have := viewNames_any l A c gv _ W hV hml; rwa [hid] at this : ∀ W gv (hV : VW l A c (w.alloc (.cells #[.int .i64 k] 3)) W gv), Calls Tryz.prog 16 #[.pointer (some ⟨gv, 0, none⟩), .int .i64 k] W (AlOut (namesOf l k) W))
      unfold AlOut at HNM
      have HF := hide (fun A c w' => HPO.out A c (namesOf l k) 0 w' hr)
      have HE := hide he
      clear HPO hr hm hml hid hall he hA hk hmt
      generalize namesOf l k = ns at *
      generalize NmOut (nmRes l k) w = PO at *
      go_enter Tryz.func6, Tryz.ntmps6
      go_wp2_with (first
        | (go_at_call 15; refine HLA.out.mono ?_; rintro e w1 ⟨hbl, ⟨hne, -⟩ | ⟨-, hf, -⟩ | ⟨-, -, gv, rfl, hV⟩⟩; exact absurd HE.out hne; exact absurd (hp.symm.trans hf) (by decide); have HV := hide hV; have HB := hide (below_chainT (bl_alloc (Below.refl w.heap.size w) _) hbl); clear hbl hV)
        | (go_at_call 16; refine (HNM.out _ gv HV.out).mono ?_; rintro e w2 ⟨A9, c9, rfl, hrow, hbl⟩; have HRW := hide (sAt_own hrow); have HB2 := hide (below_chainT HB.out hbl); clear hrow hbl))
      exact HF.out _ _ _ HRW.out.2.2.1 HRW.out.2.2.2 HB2.out
    | false =>
      have hr : nmRes l k = ([], 7) := by unfold nmRes; rw [if_neg (fun h => h he), if_neg (by rw [hp]; decide)]
      have HF := hide (fun w' => HPO.out none 0 [] 7 w' hr (Nat.le_refl _) (sAt_none _))
      have HE := hide he
      simp only [List.length_nil] at HF
      clear HPO hr hall he hA hk hmt
      generalize NmOut (nmRes l k) w = PO at *
      go_enter Tryz.func6, Tryz.ntmps6
      go_wp2_with (go_at_call 15; refine HLA.out.mono ?_; rintro e w1 ⟨hbl, ⟨hne, -⟩ | ⟨-, hf, rfl⟩ | ⟨-, hf, -⟩⟩; exact absurd HE.out hne; have HB := hide (below_chainT (bl_alloc (Below.refl w.heap.size w) _) hbl); clear hbl; all_goals first | exact absurd (hp.symm.trans hf) (by decide) | skip)
      exact HF.out _ HB.out
  · have hr : nmRes l k = ([], baseErr l) := by unfold nmRes; rw [if_pos he]
    have HF := hide (fun w' => HPO.out none 0 [] (baseErr l) w' hr (Nat.le_refl _) (sAt_none _))
    have e0 : (baseErr l == 0) = false := beq_eq_false_iff_ne.2 he
    have e1 : (baseErr l != 0) = true := bne_iff_ne.2 he
    have HE := hide he
    simp only [List.length_nil] at HF
    clear HPO hr hall he hA hk hmt
    generalize NmOut (nmRes l k) w = PO at *
    generalize baseErr l = E at *
    go_enter Tryz.func6, Tryz.ntmps6
    go_wp2_with (go_at_call 15; refine HLA.out.mono ?_; rintro e w1 ⟨hbl, ⟨-, rfl⟩ | ⟨h0, -⟩ | ⟨h0, -⟩⟩; have HB := hide (below_chainT (bl_alloc (Below.refl w.heap.size w) _) hbl); clear hbl; all_goals first | exact absurd h0 HE.out | skip)
    exact HF.out _ HB.out

end Go.Proofs.YtafgfldcbdkccaaGreatDoor
