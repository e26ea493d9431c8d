/-
  MEMORY AND WALKS: the maps of link's view; keep; mark.
-/
import Derived.Test.YtafgfldcbdkccaaGreatDoorLkb
import Derived.StringKeys
import Derived.BigQuiet
import Derived.Lib.BufferOwn
import Derived.Deep.QuietTactic
set_option linter.all false
namespace Go.Proofs.YtafgfldcbdkccaaGreatDoor
open Go.RowKit Go.Lib Go.Maps Go.WideElems Go.WideMaps

/-! ### Maps hold no more than their keys -/
theorem len_of_sub {α : Type} [DecidableEq α] : ∀ {l m : List α}, l.Nodup → (∀ x ∈ l, x ∈ m) → l.length ≤ m.length
  | [], _, _, _ => Nat.zero_le _
  | a :: l, m, hn, hs => by
    obtain ⟨h1, h2⟩ := List.nodup_cons.1 hn
    have ha := hs a (by simp)
    have ih := len_of_sub (l := l) (m := m.erase a) h2 (fun x hx => (List.mem_erase_of_ne (fun e => h1 (by rw [← e]; exact hx))).2 (hs x (by simp [hx])))
    rw [List.length_erase_of_mem ha] at ih
    have := List.length_pos_of_mem ha
    rw [List.length_cons]
    omega

theorem own_size {k : TypeId} {R : Value → Option (DataW Unit × List MemPlace)} {W : World} {g n : Nat} {D : DataW Unit} (h : World.ownsMap W Tryz.prog k R g n D) {m : Nat} (hm : Maps.size D ≤ m) : World.ownsMap W Tryz.prog k R g m D := by
  obtain ⟨es, clock, hb, Ft, hs, rfl⟩ := h
  have e1 : Maps.size (DataW.map ((es.toList.map (rg Tryz.prog k R)).foldr DataW.insert [])) = es.size := by simp [Maps.size, length_sorted]
  exact ⟨es, clock, hb, Ft, by omega, rfl⟩

def intOfL : Lit → Int
  | .int _ x => x
  | _ => 0

theorem NF.tight {g n : Nat} {W : World} {D : DataW Unit} {f : Int → Option Nat} (h : NF g W n D f) {L : List Int} (hL : ∀ x, (f x).isSome = true → x ∈ L) : NF g W L.length D f := by
  refine ⟨own_size h.own ?_, h.at_, h.has⟩
  obtain ⟨es, rfl, hp, -⟩ := h.own.entries lawI
  obtain ⟨es', hD, hko⟩ := h.own.keysOf
  obtain rfl : es = es' := by simpa using hD
  have hk : ∀ p ∈ es, ∃ x, p.1 = .int .i64 x := fun p hp => by
    obtain ⟨v, hv⟩ := hko p hp
    obtain ⟨x, _, hx, _⟩ := Maps.keyOf_i64 Tryz.underlying3 hv
    exact ⟨x, hx⟩
  have hnd : (es.map fun p => intOfL p.1).Nodup := by
    refine List.pairwise_map.2 (hp.imp_of_mem fun {p q} hp' hq' hne e => hne ?_)
    obtain ⟨a, ha⟩ := hk p hp'
    obtain ⟨b, hb⟩ := hk q hq'
    rw [ha, hb] at e ⊢
    exact congrArg _ e
  have := len_of_sub hnd (fun x hx => by
    obtain ⟨p, hp', rfl⟩ := List.mem_map.1 hx
    obtain ⟨a, ha⟩ := hk p hp'
    refine hL _ ?_
    rw [ha]
    show (f a).isSome = true
    rw [← h.has a, Maps.has_eq, List.any_eq_true]
    exact ⟨p, hp', by rw [ha]; simp [Lit.sameKey]⟩ : ∀ x ∈ es.map (fun p => intOfL p.1), x ∈ L)
  rw [List.length_map] at this
  exact this

/-! ### A map of strings to numbers -/
theorem lawT : Keyed Tryz.prog 9 := string_keyed Tryz.underlying9

structure NT (g : Nat) (W : World) (n : Nat) (D : DataW Unit) (f : List UInt8 → Option Nat) : Prop where
  own : World.ownsMap W Tryz.prog 9 (plainElem (H := Unit) Tryz.prog 3) g n D
  at_ : ∀ x : List UInt8, D.atKey (.string x) (.lit (.int .i64 0)) = .lit (.int .i64 ((f x).getD 0 : Nat))
  has : ∀ x : List UInt8, Maps.has D (.string x) = (f x).isSome
section
variable {g n : Nat} {W W' : World} {D : DataW Unit} {f : List UInt8 → Option Nat}

theorem nt_made (W : World) (hg : g = W.heap.size) : NT g (W.alloc (.map #[] 0)) 0 (.map []) (fun _ => none) := by
  subst hg
  exact ⟨World.ownsMap_made W _ _ _, fun x => rfl, fun x => by simp [Maps.has]⟩

theorem NT.grown (h : NT g W n D f) {row : Option Nat} (hg : W.grownBy W' row) (hne : some g ≠ row) : NT g W' n D f := ⟨h.own.kept hg hne, h.at_, h.has⟩

theorem NT.below (h : NT g W n D f) (hb : Below W.heap.size W W') : NT g W' n D f :=
  ⟨h.own.kept (row := none) ⟨hb.os, hb.tape, hb.output, hb.size, fun k hk _ => hb.block k hk⟩ (by simp), h.at_, h.has⟩

theorem NT.look (h : NT g W n D f) {x : ByteArray} (hx : x.size ≤ maxLen) : (Instr.lookup 49 (.map (some g)) (.string x) false).run Tryz.prog W = .ok (.int .i64 ((f x.data.toList).getD 0 : Nat)) W := by
  obtain ⟨v, ps, hr, hv⟩ := h.own.lookup lawT Tryz.underlying49 (Tryz.zeroValue3 W) (plainElem_int Tryz.underlying3 (wf_nat (d := 0) (by omega))) (keyOf_string_mk Tryz.underlying9 hx)
  rw [h.at_ x.data.toList] at hv
  rw [hr, plain_int hv]

theorem NT.lookOk (h : NT g W n D f) {x : ByteArray} (hx : x.size ≤ maxLen) : (Instr.lookup 49 (.map (some g)) (.string x) true).run Tryz.prog W = .ok (.tuple #[.int .i64 ((f x.data.toList).getD 0 : Nat), .bool (f x.data.toList).isSome]) W := by
  obtain ⟨v, ps, hr, hv⟩ := h.own.look_ok lawT Tryz.underlying49 (Tryz.zeroValue3 W) (plainElem_int Tryz.underlying3 (wf_nat (d := 0) (by omega))) (keyOf_string_mk Tryz.underlying9 hx)
  rw [h.at_ x.data.toList] at hv
  rw [hr, plain_int hv, h.has]

theorem NT.put (h : NT g W n D f) {x : List UInt8} {d : Nat} (ho : World.ownsMap W' Tryz.prog 9 (plainElem (H := Unit) Tryz.prog 3) g (n + 1) (D.put (.string x) (.lit (.int .i64 d)))) : NT g W' (n + 1) (D.put (.string x) (.lit (.int .i64 d))) (updS f x d) := by
  refine ⟨ho, fun y => ?_, fun y => ?_⟩
  · by_cases e : y = x
    · subst e
      rw [atKey_put_same h.own.isMap (by trivial), updS_same]
      rfl
    · rw [atKey_put_other (fun e2 => e (by injection e2)), h.at_ y, updS_other f d e]
  · by_cases e : y = x
    · subst e
      rw [has_put_same h.own.isMap (by trivial), updS_same]
      rfl
    · rw [has_put_other (fun e2 => e (by injection e2)), h.has y, updS_other f d e]

theorem NT.more (h : NT g W n D f) {m : Nat} (hm : n ≤ m) : NT g W m D f := ⟨h.own.mono hm, h.at_, h.has⟩
end

/-- What keep leaves. -/
def KeepOut (g : Nat) (n : Nat) (L : List (List UInt8 × Nat)) (a : List UInt8) (d : Nat) (W : World) (e : Ending) (w' : World) : Prop := e = .returned (.tuple #[]) ∧ (∃ D', NT g w' (n + 1) D' (kpF (L ++ [(a, d)]))) ∧ W.grownBy w' (some g)

set_option maxHeartbeats 1600000 in
theorem keep_any (g n : Nat) (D : DataW Unit) (L : List (List UInt8 × Nat)) (x : ByteArray) (d : Nat) (W : World) (h : NT g W n D (kpF L)) (hx : x.size ≤ 1200000) (hn : n ≤ 100000) (hd : d ≤ 1000000) :
    Calls Tryz.prog 30 #[.map (some g), .string x, .int .i64 d] W (KeepOut g n L x.data.toList d W) := by
  have hsz : x.size ≤ maxLen := by unfold maxLen; omega
  have hlk := h.lookOk hsz
  have HPO : Hid (∀ D' w', NT g w' (n + 1) D' (kpF (L ++ [(x.data.toList, d)])) → W.grownBy w' (some g) → KeepOut g n L x.data.toList d W (.returned (.tuple #[])) w') := hide fun D' w' h1 h2 => ⟨rfl, ⟨D', h1⟩, h2⟩
  generalize KeepOut g n L x.data.toList d W = PO at *
  cases hv : (kpF L x.data.toList).isSome with
  | true =>
    have HR := hide (HPO.out D W (by rw [kpF_has hv]; exact h.more (by omega)) ⟨rfl, rfl, rfl, Nat.le_refl _, fun _ _ _ => rfl⟩)
    rw [hv] at hlk
    clear hv h
    generalize ((kpF L x.data.toList).getD 0 : Nat) = v0 at *
    go_enter Tryz.func30, Tryz.ntmps30
    go_wp2
    (try go_end0)
    exact HR.out
  | false =>
    obtain ⟨wi, hins, hoi, hgi⟩ := h.own.update lawT Tryz.underlying49 (by unfold maxLen; omega) (keyOf_string_mk Tryz.underlying9 hsz) (plainElem_int Tryz.underlying3 (wf_nat (d := d) hd))
    have HR := hide (HPO.out _ wi (by rw [kpF_new hv]; exact h.put hoi) hgi)
    rw [hv] at hlk
    clear hv h hoi hgi
    generalize ((kpF L x.data.toList).getD 0 : Nat) = v0 at *
    go_enter Tryz.func30, Tryz.ntmps30
    go_wp2
    (try go_end0)
    exact HR.out

/-! ### mark -/
theorem Bel.id {l : List BK} (G : Good l) {k x : Int} (h : Bel l k x) (hk : ∃ m, ∃ h : m < l.length, l[m].id = k) : ∃ m, ∃ h : m < l.length, l[m].id = x := by
  cases h with
  | refl => exact hk
  | kid hb _ hx =>
    obtain ⟨n, hn, -, hid, -⟩ := G.kid _ hb _ hx
    exact ⟨n, hn, hid⟩

/-- Marks lie on blocks alone. -/
def OnIds (l : List BK) (f : Int → Option Nat) : Prop := ∀ x, (f x).isSome = true → x ∈ l.map BK.id

theorem ids_mem {l : List BK} {x : Int} : x ∈ l.map BK.id ↔ ∃ m, ∃ h : m < l.length, l[m].id = x := by
  rw [List.mem_map]
  constructor
  · rintro ⟨b, hb, rfl⟩
    obtain ⟨m, hm, rfl⟩ := List.getElem_of_mem hb
    exact ⟨m, hm, rfl⟩
  · rintro ⟨m, hm, rfl⟩
    exact ⟨l[m], List.getElem_mem hm, rfl⟩

theorem MkJ.on {l : List BK} (G : Good l) {k : Int} {ks : List Int} {p : Nat} {f f' : Int → Option Nat} (h : MkJ l k ks p f f') (hf : OnIds l f) (hk : k ∈ l.map BK.id) (hks : ∀ y ∈ ks, y ∈ l.map BK.id) : OnIds l f' := by
  intro x hx
  by_cases e : x = k ∨ ∃ y ∈ ks, Bel l y x
  · rcases e with rfl | ⟨y, hy, hb⟩
    · exact hk
    · exact ids_mem.2 (hb.id G (ids_mem.1 (hks y hy)))
  · rw [(h x).2 e] at hx
    exact hf x hx

theorem MkP.on {l : List BK} (G : Good l) {k : Int} {p : Nat} {f f' : Int → Option Nat} (h : MkP l k p f f') (hf : OnIds l f) (hk : k ∈ l.map BK.id) : OnIds l f' := by
  intro x hx
  by_cases e : Bel l k x
  · exact ids_mem.2 (e.id G (ids_mem.1 hk))
  · rw [(h x).2 e] at hx
    exact hf x hx

def MarkOut (l : List BK) (gp : Nat) (k : Int) (p : Nat) (f : Int → Option Nat) (W : World) (e : Ending) (w' : World) : Prop := e = .returned (.tuple #[]) ∧ (∃ n' D' f', NF gp w' n' D' f' ∧ MkP l k p f f' ∧ OnIds l f') ∧ W.grownBy w' (some gp)

theorem grownBy_refl {w : World} {row : Option Nat} : w.grownBy w row := ⟨rfl, rfl, rfl, Nat.le_refl _, fun _ _ _ => rfl⟩

theorem below_of_grown {w0 W wr : World} {g : Nat} (hb : Below w0.heap.size w0 W) (hg : W.grownBy wr (some g)) (hlt : w0.heap.size ≤ g) : Below w0.heap.size w0 wr := hb.grown hg hb.size (fun k hk => by injection hk with hk; omega)

set_option maxHeartbeats 3200000 in
set_option maxRecDepth 100000 in
theorem mark_any (l : List BK) (A : Option Addr) (c : Nat) (w0 : World) (hA : BsAt w0 A l) (R : Right l) (gv ga gp : Nat) (t3 t4 : Value) (hgp : w0.heap.size ≤ gp) (hap : ga ≠ gp) (hvp : gv ≠ gp) (p : Nat) (hp : p ≤ 1000000) :
    ∀ (z : Nat) (k : Int) (d n : Nat) (D : DataW Unit) (f : Int → Option Nat) (na : Nat) (Da : DataW Unit) (W : World), d + z = 41 → Dp l k d → NF gp W n D f → OnIds l f → NF ga W na Da (ixOf l) → Blk W gv 51 #[.slice A l.length c, .map (some ga), .map (some gp), t3, t4] → Below w0.heap.size w0 W →
    Calls Tryz.prog 27 #[.pointer (some ⟨gv, 0, none⟩), .int .i64 k, .int .i64 p] W (MarkOut l gp k p f W) := by
  intro z
  induction z with
  | zero =>
    intro k d n D f na Da W hz hd
    have := R.deep k d hd
    omega
  | succ z ih =>
    intro k d n D f na Da W hz hd hN hon hNa hV hB
    obtain ⟨m, hm, rfl⟩ := hd.at R.good R.pos
    have hid : l[m].id ∈ l.map BK.id := ids_mem.2 ⟨m, hm, rfl⟩
    have h64 : In64 l[m].id := by have := R.good.ids.bound hm; unfold In64; omega
    have hN2 := hN.tight hon
    rw [List.length_map] at hN2
    obtain ⟨wi, hins, hoi, hgi⟩ := hN2.own.update lawI Tryz.underlying48 (by have := R.len; unfold maxLen; omega) (keyOf_int_mk Tryz.underlying3 h64.wf) (plainElem_int Tryz.underlying3 (wf_nat (d := p) hp))
    have HN1 := hide (hN2.put hoi)
    have HNa := hide (hNa.grown hgi (fun e => hap (Option.some.inj e)))
    have HV := hide (hV.grown hgi (fun e => hvp (Option.some.inj e)))
    have HB := hide (below_of_grown hB hgi hgp)
    have HGI := hide hgi
    obtain ⟨b, o, A1, c1, A2, c2, rfl, hlb, q0, q1, q20, q3, q4, hks, -⟩ := hA.getB (Below.refl _ _) hm
    have q2 := (HB.out.cell (p := ⟨b, o + m * 5 + 2, none⟩) hlb).trans q20
    clear q20 q0 q1 q3 q4
    have HKS := hide hks
    have HMEM := hide (List.getElem_mem hm)
    have HL5 := hide (R.kids l[m] HMEM.out)
    have HEND := hide (fun (f' : Int → Option Nat) (h : MkJ l l[m].id l[m].kids p f f') => mkJ_end R.good hm rfl h)
    have HON := hide (fun (f' : Int → Option Nat) (h : MkP l l[m].id p f f') => h.on R.good hon hid)
    have hlk := fun q => (HNa.out.below (W' := wi.drewN q) (bl_drewN (Below.refl _ _) q)).look h64
    rw [R.good.ids.ix hm] at hlk
    simp only [Option.getD_some] at hlk
    have hv0 := hV.cell 0
    have hv1 := hV.cell 1
    have hv2 := hV.cell 2
    have hu0 := HV.out.cell 0
    have hu1 := HV.out.cell 1
    have im : (m : Int) < (l.length : Int) := by omega
    have HPO : Hid (∀ n' D' f' w', NF gp w' n' D' f' → MkP l l[m].id p f f' → W.grownBy w' (some gp) → MarkOut l gp l[m].id p f W (.returned (.tuple #[])) w') := hide fun n' D' f' w' h1 h2 h3 => ⟨rfl, ⟨n', D', f', h1, h2, HON.out f' h2⟩, h3⟩
    have HR := hide R
    have HKID := hide (fun (j : Nat) (hj : j < l[m].kids.length) => (⟨by rw [ids_mem]; obtain ⟨n, hn, -, hid, -⟩ := R.good.kid _ HMEM.out _ (List.getElem_mem hj); exact ⟨n, hn, hid⟩, .kid HMEM.out hd (List.getElem_mem hj)⟩ : l[m].kids[j] ∈ l.map BK.id ∧ Dp l l[m].kids[j] (d + 1)))
    have HJON := hide (fun (j : Nat) (f' : Int → Option Nat) (h : MkJ l l[m].id (l[m].kids.take j) p f f') => h.on R.good hon hid (fun y hy => by
      obtain ⟨n, hn, -, hid, -⟩ := R.good.kid _ HMEM.out _ (List.mem_of_mem_take hy)
      exact ids_mem.2 ⟨n, hn, hid⟩))
    have HST := hide (mkJ_start l l[m].id p f)
    have HIH := hide ih
    generalize MarkOut l gp l[m].id p f W = PO at *
    clear ih hA hd hN hon hNa hV hB hid h64 hN2 hoi hgi hks R HON
    generalize l[m].id = k at *
    generalize l[m].kids = ks at *
    go_enter Tryz.func27, Tryz.ntmps27
    go_upto_region 1 with (fail)
    go_quiet (fail)
    go_wp2
    go_loopw [28] (fun i9 wr => ∃ (j nn : Nat) (DD : DataW Unit) (ff : Int → Option Nat), j ≤ ks.length ∧ i9 = .int .i64 j ∧ Hid (NF gp wr nn DD ff) ∧ Hid (MkJ l k (ks.take j) p f ff) ∧ Hid (W.grownBy wr (some gp)) ∧ Hid (wi.grownBy wr (some gp))) (fun i9 _ => ks.length - (intOf i9).toNat)
    case atStart => exact ⟨0, _, _, _, Nat.zero_le _, rfl, hide (HN1.out.below (by repeat (first | with_reducible exact Below.refl _ _ | with_reducible refine bl_plus ?_ | with_reducible refine bl_alloc ?_ _ | with_reducible refine bl_drew ?_ | with_reducible refine bl_drewN ?_ _))), hide (by rw [List.take_zero]; exact HST.out), hide (Go.Lib.grownBy_below HGI.out (by repeat (first | with_reducible exact Below.refl _ _ | with_reducible refine bl_plus ?_ | with_reducible refine bl_alloc ?_ _ | with_reducible refine bl_drew ?_ | with_reducible refine bl_drewN ?_ _))), hide (Go.Lib.grownBy_below grownBy_refl (by repeat (first | with_reducible exact Below.refl _ _ | with_reducible refine bl_plus ?_ | with_reducible refine bl_alloc ?_ _ | with_reducible refine bl_drew ?_ | with_reducible refine bl_drewN ?_ _)))⟩
    case round =>
      obtain ⟨j, nn, DD, ff, hj, rfl, HNF, HMJ, HG, HG2⟩ := hrel
      by_cases hlt : j < ks.length
      · have HBW := hide (below_of_grown HB.out HG2.out hgp)
        obtain ⟨b2, o2, rfl, hb2, z0⟩ := ints_get (HKS.out.below HBW.out) hlt
        have i1 : (j : Int) < (ks.length : Int) := by omega
        have i5 : ks.length ≤ 500 := HL5.out
        have HREC := hide (fun W' (hg : wr = W') => HIH.out ks[j] (d + 1) nn DD ff na Da W' (by omega) (HKID.out j hlt).2 (hg ▸ HNF.out) (HJON.out j ff HMJ.out) (hg ▸ HNa.out.grown HG2.out (fun e => hap (Option.some.inj e))) (hg ▸ HV.out.grown HG2.out (fun e => hvp (Option.some.inj e))) (hg ▸ HBW.out))
        have HSTP := hide (fun (f2 : Int → Option Nat) (h : MkP l ks[j] p ff f2) => (by rw [List.take_succ_eq_append_getElem hlt]; exact mkJ_step HMJ.out h : MkJ l k (ks.take (j + 1)) p f f2))
        clear HMJ HNF
        generalize ks[j] = y at *
        unfold MarkOut at HREC
        go_wp2_with (go_at_call 27; refine (HREC.out _ rfl).mono ?_; rintro e w9 ⟨rfl, ⟨n2, D2, f2, h1, h2, h3⟩, h4⟩; have HN2 := hide h1; have HM2 := hide h2; have HG4 := hide h4; clear h1 h2 h3 h4)
        go_roundw
        case rel => exact ⟨j + 1, n2, D2, f2, by omega, by go_num, HN2, hide (HSTP.out f2 HM2.out), hide (Go.Lib.grownBy_trans HG.out HG4.out), hide (Go.Lib.grownBy_trans HG2.out HG4.out)⟩
        case measure => simp [intOf]; omega
      · obtain rfl : j = ks.length := by omega
        have HF := hide (HPO.out nn DD ff wr HNF.out (HEND.out ff (by have := HMJ.out; rwa [List.take_length] at this)) HG.out)
        go_wp2
        (try go_end0)
        exact HF.out

end Go.Proofs.YtafgfldcbdkccaaGreatDoor
