/-
  MEMORY AND WALKS: the maps of link's view; keep; mark.
-/
import Derived.Test.YtioppoaijehicaaGreatDoorLkb
import Derived.StringKeys
import Derived.BigQuiet
import Derived.Lib.BufferOwn
import Derived.Deep.QuietTactic
import Derived.Test.YtioppoaijehicaaGreatDoorOwnC
set_option linter.all false
namespace Go.Proofs.YtioppoaijehicaaGreatDoor
open Go.RowKit Go.Lib Go.Maps Go.WideElems Go.WideMaps

/-! ### Maps hold no more than their keys -/
theorem len_of_sub {α : Type} [DecidableEq α] : ∀ {l m : List α}, l.Nodup → (∀ x ∈ l, x ∈ m) → l.length ≤ m.length
  | [], _, _, _ => Nat.zero_le _
  | a :: l, m, hn, hs => by
    obtain ⟨h1, h2⟩ := List.nodup_cons.1 hn
    have ha := hs a (by simp)
    have ih := len_of_sub (l := l) (m := m.erase a) h2 (fun x hx => (List.mem_erase_of_ne (fun e => h1 (by rw [← e]; exact hx))).2 (hs x (by simp [hx])))
    rw [List.length_erase_of_mem ha] at ih
    have := List.length_pos_of_mem ha
    rw [List.length_cons]
    omega

theorem own_size {k : TypeId} {R : Value → Option (DataW Unit × List MemPlace)} {W : World} {g n : Nat} {D : DataW Unit} (h : World.ownsMap W Tryz.prog k R g n D) {m : Nat} (hm : Maps.size D ≤ m) : World.ownsMap W Tryz.prog k R g m D := by
  obtain ⟨es, clock, hb, Ft, hs, rfl⟩ := h
  have e1 : Maps.size (DataW.map ((es.toList.map (rg Tryz.prog k R)).foldr DataW.insert [])) = es.size := by simp [Maps.size, length_sorted]
  exact ⟨es, clock, hb, Ft, by omega, rfl⟩

def intOfL : Lit → Int
  | .int _ x => x
  | _ => 0

theorem NF.tight {g n : Nat} {W : World} {D : DataW Unit} {f : Int → Option Nat} (h : NF g W n D f) {L : List Int} (hL : ∀ x, (f x).isSome = true → x ∈ L) : NF g W L.length D f := by
  refine ⟨own_size h.own ?_, h.at_, h.has⟩
  obtain ⟨es, rfl, hp, -⟩ := h.own.entries lawI
  obtain ⟨es', hD, hko⟩ := h.own.keysOf
  obtain rfl : es = es' := by simpa using hD
  have hk : ∀ p ∈ es, ∃ x, p.1 = .int .i64 x := fun p hp => by
    obtain ⟨v, hv⟩ := hko p hp
    obtain ⟨x, _, hx, _⟩ := Maps.keyOf_i64 Tryz.underlying3 hv
    exact ⟨x, hx⟩
  have hnd : (es.map fun p => intOfL p.1).Nodup := by
    refine List.pairwise_map.2 (hp.imp_of_mem fun {p q} hp' hq' hne e => hne ?_)
    obtain ⟨a, ha⟩ := hk p hp'
    obtain ⟨b, hb⟩ := hk q hq'
    rw [ha, hb] at e ⊢
    exact congrArg _ e
  have := len_of_sub hnd (fun x hx => by
    obtain ⟨p, hp', rfl⟩ := List.mem_map.1 hx
    obtain ⟨a, ha⟩ := hk p hp'
    refine hL _ ?_
    rw [ha]
    show (f a).isSome = true
    rw [← h.has a, Maps.has_eq, List.any_eq_true]
    exact ⟨p, hp', by rw [ha]; simp [Lit.sameKey]⟩ : ∀ x ∈ es.map (fun p => intOfL p.1), x ∈ L)
  rw [List.length_map] at this
  exact this

/-! ### A map of strings to numbers -/
theorem lawT : Keyed Tryz.prog 9 := string_keyed Tryz.underlying9

structure NT (g : Nat) (W : World) (n : Nat) (D : DataW Unit) (f : List UInt8 → Option Nat) : Prop where
  own : World.ownsMap W Tryz.prog 9 (plainElem (H := Unit) Tryz.prog 3) g n D
  at_ : ∀ x : List UInt8, D.atKey (.string x) (.lit (.int .i64 0)) = .lit (.int .i64 ((f x).getD 0 : Nat))
  has : ∀ x : List UInt8, Maps.has D (.string x) = (f x).isSome
section
variable {g n : Nat} {W W' : World} {D : DataW Unit} {f : List UInt8 → Option Nat}

theorem nt_made (W : World) (hg : g = W.heap.size) : NT g (W.alloc (.map #[] 0)) 0 (.map []) (fun _ => none) := by
  subst hg
  exact ⟨World.ownsMap_made W _ _ _, fun x => rfl, fun x => by simp [Maps.has]⟩

theorem NT.grown (h : NT g W n D f) {row : Option Nat} (hg : W.grownBy W' row) (hne : some g ≠ row) : NT g W' n D f := ⟨h.own.kept hg hne, h.at_, h.has⟩

theorem NT.below (h : NT g W n D f) (hb : Below W.heap.size W W') : NT g W' n D f :=
  ⟨h.own.kept (row := none) ⟨hb.os, hb.tape, hb.output, hb.size, fun k hk _ => hb.block k hk⟩ (by simp), h.at_, h.has⟩

theorem NT.look (h : NT g W n D f) {x : ByteArray} (hx : x.size ≤ maxLen) : (Instr.lookup 77 (.map (some g)) (.string x) false).run Tryz.prog W = .ok (.int .i64 ((f x.data.toList).getD 0 : Nat)) W := by
  obtain ⟨v, ps, hr, hv⟩ := h.own.lookup lawT Tryz.underlying77 (Tryz.zeroValue3 W) (plainElem_int Tryz.underlying3 (wf_nat (d := 0) (by omega))) (keyOf_string_mk Tryz.underlying9 hx)
  rw [h.at_ x.data.toList] at hv
  rw [hr, plain_int hv]

theorem NT.lookOk (h : NT g W n D f) {x : ByteArray} (hx : x.size ≤ maxLen) : (Instr.lookup 77 (.map (some g)) (.string x) true).run Tryz.prog W = .ok (.tuple #[.int .i64 ((f x.data.toList).getD 0 : Nat), .bool (f x.data.toList).isSome]) W := by
  obtain ⟨v, ps, hr, hv⟩ := h.own.look_ok lawT Tryz.underlying77 (Tryz.zeroValue3 W) (plainElem_int Tryz.underlying3 (wf_nat (d := 0) (by omega))) (keyOf_string_mk Tryz.underlying9 hx)
  rw [h.at_ x.data.toList] at hv
  rw [hr, plain_int hv, h.has]

theorem NT.put (h : NT g W n D f) {x : List UInt8} {d : Nat} (ho : World.ownsMap W' Tryz.prog 9 (plainElem (H := Unit) Tryz.prog 3) g (n + 1) (D.put (.string x) (.lit (.int .i64 d)))) : NT g W' (n + 1) (D.put (.string x) (.lit (.int .i64 d))) (updS f x d) := by
  refine ⟨ho, fun y => ?_, fun y => ?_⟩
  · by_cases e : y = x
    · subst e
      rw [atKey_put_same h.own.isMap (by trivial), updS_same]
      rfl
    · rw [atKey_put_other (fun e2 => e (by injection e2)), h.at_ y, updS_other f d e]
  · by_cases e : y = x
    · subst e
      rw [has_put_same h.own.isMap (by trivial), updS_same]
      rfl
    · rw [has_put_other (fun e2 => e (by injection e2)), h.has y, updS_other f d e]

theorem NT.more (h : NT g W n D f) {m : Nat} (hm : n ≤ m) : NT g W m D f := ⟨h.own.mono hm, h.at_, h.has⟩
end

/-- What keep leaves. -/
def KeepOut (g : Nat) (n : Nat) (L : List (List UInt8 × Nat)) (a : List UInt8) (d : Nat) (W : World) (e : Ending) (w' : World) : Prop := e = .returned (.tuple #[]) ∧ (∃ D', NT g w' (n + 1) D' (kpF (L ++ [(a, d)]))) ∧ W.grownBy w' (some g)

set_option maxHeartbeats 1600000 in
theorem keep_any (g n : Nat) (D : DataW Unit) (L : List (List UInt8 × Nat)) (x : ByteArray) (d : Nat) (W : World) (h : NT g W n D (kpF L)) (hx : x.size ≤ 1200000) (hn : n ≤ 100000) (hd : d ≤ 1000000) :
    Calls Tryz.prog 73 #[.map (some g), .string x, .int .i64 d] W (KeepOut g n L x.data.toList d W) := by
  have hsz : x.size ≤ maxLen := by unfold maxLen; omega
  have hlk := h.lookOk hsz
  have HPO : Hid (∀ D' w', NT g w' (n + 1) D' (kpF (L ++ [(x.data.toList, d)])) → W.grownBy w' (some g) → KeepOut g n L x.data.toList d W (.returned (.tuple #[])) w') := hide fun D' w' h1 h2 => ⟨rfl, ⟨D', h1⟩, h2⟩
  generalize KeepOut g n L x.data.toList d W = PO at *
  cases hv : (kpF L x.data.toList).isSome with
  | true =>
    have HR := hide (HPO.out D W (by rw [kpF_has hv]; exact h.more (by omega)) ⟨rfl, rfl, rfl, Nat.le_refl _, fun _ _ _ => rfl⟩)
    rw [hv] at hlk
    clear hv h
    generalize ((kpF L x.data.toList).getD 0 : Nat) = v0 at *
    go_enter Tryz.func73, Tryz.ntmps73
    go_wp2
    (try go_end0)
    exact HR.out
  | false =>
    obtain ⟨wi, hins, hoi, hgi⟩ := h.own.update lawT Tryz.underlying77 (by unfold maxLen; omega) (keyOf_string_mk Tryz.underlying9 hsz) (plainElem_int Tryz.underlying3 (wf_nat (d := d) hd))
    have HR := hide (HPO.out _ wi (by rw [kpF_new hv]; exact h.put hoi) hgi)
    rw [hv] at hlk
    clear hv h hoi hgi
    generalize ((kpF L x.data.toList).getD 0 : Nat) = v0 at *
    go_enter Tryz.func73, Tryz.ntmps73
    go_wp2
    (try go_end0)
    exact HR.out

/-! ### mark -/
theorem Bel.id {l : List BK} (G : Good l) {k x : Int} (h : Bel l k x) (hk : ∃ m, ∃ h : m < l.length, l[m].id = k) : ∃ m, ∃ h : m < l.length, l[m].id = x := by
  cases h with
  | refl => exact hk
  | kid hb _ hx =>
    obtain ⟨n, hn, -, hid, -⟩ := G.kid _ hb _ hx
    exact ⟨n, hn, hid⟩

/-- Marks lie on blocks alone. -/
def OnIds (l : List BK) (f : Int → Option Nat) : Prop := ∀ x, (f x).isSome = true → x ∈ l.map BK.id

theorem ids_mem {l : List BK} {x : Int} : x ∈ l.map BK.id ↔ ∃ m, ∃ h : m < l.length, l[m].id = x := by
  rw [List.mem_map]
  constructor
  · rintro ⟨b, hb, rfl⟩
    obtain ⟨m, hm, rfl⟩ := List.getElem_of_mem hb
    exact ⟨m, hm, rfl⟩
  · rintro ⟨m, hm, rfl⟩
    exact ⟨l[m], List.getElem_mem hm, rfl⟩

theorem MkJ.on {l : List BK} (G : Good l) {k : Int} {ks : List Int} {p : Nat} {f f' : Int → Option Nat} (h : MkJ l k ks p f f') (hf : OnIds l f) (hk : k ∈ l.map BK.id) (hks : ∀ y ∈ ks, y ∈ l.map BK.id) : OnIds l f' := by
  intro x hx
  by_cases e : x = k ∨ ∃ y ∈ ks, Bel l y x
  · rcases e with rfl | ⟨y, hy, hb⟩
    · exact hk
    · exact ids_mem.2 (hb.id G (ids_mem.1 (hks y hy)))
  · rw [(h x).2 e] at hx
    exact hf x hx

theorem MkP.on {l : List BK} (G : Good l) {k : Int} {p : Nat} {f f' : Int → Option Nat} (h : MkP l k p f f') (hf : OnIds l f) (hk : k ∈ l.map BK.id) : OnIds l f' := by
  intro x hx
  by_cases e : Bel l k x
  · exact ids_mem.2 (e.id G (ids_mem.1 hk))
  · rw [(h x).2 e] at hx
    exact hf x hx

def MarkOut (l : List BK) (gp : Nat) (k : Int) (p : Nat) (f : Int → Option Nat) (W : World) (e : Ending) (w' : World) : Prop := e = .returned (.tuple #[]) ∧ (∃ n' D' f', NF gp w' n' D' f' ∧ MkP l k p f f' ∧ OnIds l f') ∧ W.grownBy w' (some gp)

theorem grownBy_refl {w : World} {row : Option Nat} : w.grownBy w row := ⟨rfl, rfl, rfl, Nat.le_refl _, fun _ _ _ => rfl⟩

theorem below_of_grown {w0 W wr : World} {g : Nat} (hb : Below w0.heap.size w0 W) (hg : W.grownBy wr (some g)) (hlt : w0.heap.size ≤ g) : Below w0.heap.size w0 wr := hb.grown hg hb.size (fun k hk => by injection hk with hk; omega)

set_option maxHeartbeats 3200000 in
set_option maxRecDepth 100000 in
theorem mark_any (l : List BK) (A : Option Addr) (c : Nat) (w0 : World) (hA : BsAt w0 A l) (R : Right l) (gv ga gp : Nat) (t3 t4 : Value) (hgp : w0.heap.size ≤ gp) (hap : ga ≠ gp) (hvp : gv ≠ gp) (p : Nat) (hp : p ≤ 1000000) :
    ∀ (z : Nat) (k : Int) (d n : Nat) (D : DataW Unit) (f : Int → Option Nat) (na : Nat) (Da : DataW Unit) (W : World), d + z = 41 → Dp l k d → NF gp W n D f → OnIds l f → NF ga W na Da (ixOf l) → Blk W gv 79 #[.slice A l.length c, .map (some ga), .map (some gp), t3, t4] → Below w0.heap.size w0 W →
    Calls Tryz.prog 71 #[.pointer (some ⟨gv, 0, none⟩), .int .i64 k, .int .i64 p] W (MarkOut l gp k p f W) := by
  intro z
  induction z with
  | zero =>
    intro k d n D f na Da W hz hd
    have := R.deep k d hd
    omega
  | succ z ih =>
    intro k d n D f na Da W hz hd hN hon hNa hV hB
    obtain ⟨m, hm, rfl⟩ := hd.at R.good R.pos
    have hid : l[m].id ∈ l.map BK.id := ids_mem.2 ⟨m, hm, rfl⟩
    have h64 : In64 l[m].id := by have := R.good.ids.bound hm; unfold In64; omega
    have hN2 := hN.tight hon
    rw [List.length_map] at hN2
    obtain ⟨wi, hins, hoi, hgi⟩ := hN2.own.update lawI Tryz.underlying52 (by have := R.len; unfold maxLen; omega) (keyOf_int_mk Tryz.underlying3 h64.wf) (plainElem_int Tryz.underlying3 (wf_nat (d := p) hp))
    have HN1 := hide (hN2.put hoi)
    have HNa := hide (hNa.grown hgi (fun e => hap (Option.some.inj e)))
    have HV := hide (hV.grown hgi (fun e => hvp (Option.some.inj e)))
    have HB := hide (below_of_grown hB hgi hgp)
    have HGI := hide hgi
    obtain ⟨b, o, A1, c1, A2, c2, rfl, hlb, q0, q1, q20, q3, q4, hks, -⟩ := hA.getB (Below.refl _ _) hm
    have q2 := (HB.out.cell (p := ⟨b, o + m * 5 + 2, none⟩) hlb).trans q20
    clear q20 q0 q1 q3 q4
    have HKS := hide hks
    have HMEM := hide (List.getElem_mem hm)
    have HL5 := hide (R.kids l[m] HMEM.out)
    have HEND := hide (fun (f' : Int → Option Nat) (h : MkJ l l[m].id l[m].kids p f f') => mkJ_end R.good hm rfl h)
    have HON := hide (fun (f' : Int → Option Nat) (h : MkP l l[m].id p f f') => h.on R.good hon hid)
    have hlk := fun q => (HNa.out.below (W' := wi.drewN q) (bl_drewN (Below.refl _ _) q)).look h64
    rw [R.good.ids.ix hm] at hlk
    simp only [Option.getD_some] at hlk
    have hv0 := hV.cell 0
    have hv1 := hV.cell 1
    have hv2 := hV.cell 2
    have hu0 := HV.out.cell 0
    have hu1 := HV.out.cell 1
    have im : (m : Int) < (l.length : Int) := by omega
    have HPO : Hid (∀ n' D' f' w', NF gp w' n' D' f' → MkP l l[m].id p f f' → W.grownBy w' (some gp) → MarkOut l gp l[m].id p f W (.returned (.tuple #[])) w') := hide fun n' D' f' w' h1 h2 h3 => ⟨rfl, ⟨n', D', f', h1, h2, HON.out f' h2⟩, h3⟩
    have HR := hide R
    have HKID := hide (fun (j : Nat) (hj : j < l[m].kids.length) => (⟨by rw [ids_mem]; obtain ⟨n, hn, -, hid, -⟩ := R.good.kid _ HMEM.out _ (List.getElem_mem hj); exact ⟨n, hn, hid⟩, .kid HMEM.out hd (List.getElem_mem hj)⟩ : l[m].kids[j] ∈ l.map BK.id ∧ Dp l l[m].kids[j] (d + 1)))
    have HJON := hide (fun (j : Nat) (f' : Int → Option Nat) (h : MkJ l l[m].id (l[m].kids.take j) p f f') => h.on R.good hon hid (fun y hy => by
      obtain ⟨n, hn, -, hid, -⟩ := R.good.kid _ HMEM.out _ (List.mem_of_mem_take hy)
      exact ids_mem.2 ⟨n, hn, hid⟩))
    have HST := hide (mkJ_start l l[m].id p f)
    have HIH := hide ih
    generalize MarkOut l gp l[m].id p f W = PO at *
    clear ih hA hd hN hon hNa hV hB hid h64 hN2 hoi hgi hks R HON
    generalize l[m].id = k at *
    generalize l[m].kids = ks at *
    go_enter Tryz.func71, Tryz.ntmps71
    go_upto_region 1 with (fail)
    go_quiet (fail)
    go_wp2
    go_loopw [28] (fun i9 wr => ∃ (j nn : Nat) (DD : DataW Unit) (ff : Int → Option Nat), j ≤ ks.length ∧ i9 = .int .i64 j ∧ Hid (NF gp wr nn DD ff) ∧ Hid (MkJ l k (ks.take j) p f ff) ∧ Hid (W.grownBy wr (some gp)) ∧ Hid (wi.grownBy wr (some gp))) (fun i9 _ => ks.length - (intOf i9).toNat)
    case atStart => exact ⟨0, _, _, _, Nat.zero_le _, rfl, hide (HN1.out.below (by repeat (first | with_reducible exact Below.refl _ _ | with_reducible refine bl_plus ?_ | with_reducible refine bl_alloc ?_ _ | with_reducible refine bl_drew ?_ | with_reducible refine bl_drewN ?_ _))), hide (by rw [List.take_zero]; exact HST.out), hide (Go.Lib.grownBy_below HGI.out (by repeat (first | with_reducible exact Below.refl _ _ | with_reducible refine bl_plus ?_ | with_reducible refine bl_alloc ?_ _ | with_reducible refine bl_drew ?_ | with_reducible refine bl_drewN ?_ _))), hide (Go.Lib.grownBy_below grownBy_refl (by repeat (first | with_reducible exact Below.refl _ _ | with_reducible refine bl_plus ?_ | with_reducible refine bl_alloc ?_ _ | with_reducible refine bl_drew ?_ | with_reducible refine bl_drewN ?_ _)))⟩
    case round =>
      obtain ⟨j, nn, DD, ff, hj, rfl, HNF, HMJ, HG, HG2⟩ := hrel
      by_cases hlt : j < ks.length
      · have HBW := hide (below_of_grown HB.out HG2.out hgp)
        obtain ⟨b2, o2, rfl, hb2, z0⟩ := ints_get (HKS.out.below HBW.out) hlt
        have i1 : (j : Int) < (ks.length : Int) := by omega
        have i5 : ks.length ≤ 500 := HL5.out
        have HREC := hide (fun W' (hg : wr = W') => HIH.out ks[j] (d + 1) nn DD ff na Da W' (by omega) (HKID.out j hlt).2 (hg ▸ HNF.out) (HJON.out j ff HMJ.out) (hg ▸ HNa.out.grown HG2.out (fun e => hap (Option.some.inj e))) (hg ▸ HV.out.grown HG2.out (fun e => hvp (Option.some.inj e))) (hg ▸ HBW.out))
        have HSTP := hide (fun (f2 : Int → Option Nat) (h : MkP l ks[j] p ff f2) => (by rw [List.take_succ_eq_append_getElem hlt]; exact mkJ_step HMJ.out h : MkJ l k (ks.take (j + 1)) p f f2))
        clear HMJ HNF
        generalize ks[j] = y at *
        unfold MarkOut at HREC
        go_wp2_with (go_at_call 71; refine (HREC.out _ rfl).mono ?_; rintro e w9 ⟨rfl, ⟨n2, D2, f2, h1, h2, h3⟩, h4⟩; have HN2 := hide h1; have HM2 := hide h2; have HG4 := hide h4; clear h1 h2 h3 h4)
        go_roundw
        case rel => exact ⟨j + 1, n2, D2, f2, by omega, by go_num, HN2, hide (HSTP.out f2 HM2.out), hide (Go.Lib.grownBy_trans HG.out HG4.out), hide (Go.Lib.grownBy_trans HG2.out HG4.out)⟩
        case measure => simp [intOf]; omega
      · obtain rfl : j = ks.length := by omega
        have HF := hide (HPO.out nn DD ff wr HNF.out (HEND.out ff (by have := HMJ.out; rwa [List.take_length] at this)) HG.out)
        go_wp2
        (try go_end0)
        exact HF.out

end Go.Proofs.YtioppoaijehicaaGreatDoor
/-
  MEMORY AND WALKS: strings and values in rows that the call owns; the aliases of a page, the program's way.
-/
namespace Go.Proofs.YtioppoaijehicaaGreatDoor
open Go.RowKit Go.Lib

def sV (l : List ByteArray) : List Value := l.map Value.string

theorem sV_len (l : List ByteArray) : (sV l).length = l.length := List.length_map _

theorem sV_snoc (l : List ByteArray) (a : ByteArray) : sV (l ++ [a]) = sV l ++ [.string a] := by simp [sV]

theorem info_strL : (Tryz.prog.info? 9).map (fun i => (i.zero, i.size, i.bytes)) = some (some (.string ByteArray.empty), 1, 16) := by kernel_rfl

theorem info_valL : (Tryz.prog.info? 116).map (fun i => (i.zero, i.size, i.bytes)) = some (some (.agg #[.int .i64 0, .int .i64 0, .int .i64 0, .string ByteArray.empty, .slice none 0 0]), 5, 64) := by kernel_rfl

/-- A row of strings that the call owns reads as a list. -/
theorem sAt_own {w : World} {base n m c : Nat} {A : Option Addr} {l : List ByteArray} (h : OwnK 1 9 w base (.slice A m c) n (sV l)) : n = l.length ∧ m = n ∧ n ≤ c ∧ SAt w A l := by
  obtain ⟨hl, A', c', hv, h1, h2, h3⟩ := h
  injection hv with e1 e2 e3
  subst e1 e2 e3
  rw [sV_len, Nat.mul_one] at hl
  refine ⟨hl.symm, rfl, h1, by omega, fun h0 => ?_⟩
  rcases h3 with ⟨rfl, h4, -⟩ | ⟨g, cur, rfl, hg, hb, h4, h5⟩
  · omega
  · refine ⟨g, 0, rfl, (Array.getElem?_eq_some_iff.1 hb).1, fun j hj => ?_⟩
    rw [Nat.zero_add, cell_of_row w g j cur _ (0, 0) hb]
    have h6 : (cur.toList.take (m * 1))[j]? = (sV l)[j]? := by rw [h5]
    rw [List.getElem?_take_of_lt (by omega), sV, List.getElem?_map, List.getElem?_eq_getElem hj] at h6
    rw [← Array.getElem?_toList, h6]
    rfl

theorem ownK_neblk {K : Nat} {e t : TypeId} {w : World} {base g n : Nat} {v : Value} {xs : List Value} {cs : Array Value} (h : OwnK K e w base v n xs) (hB : Blk w g t cs) (hne : e ≠ t) : some g ≠ v.ownBlock := fun e9 => by
  obtain ⟨hl, A, c, rfl, h1, h2, h3⟩ := h
  rcases h3 with ⟨rfl, -, -⟩ | ⟨g', cur, rfl, hg, hb, h4, h5⟩
  · cases e9
  · have e1 : g = g' := by simpa [Value.ownBlock] using e9
    subst e1
    unfold Blk at hB
    rw [hb] at hB
    injection hB with hB
    injection hB with _ h9 _
    exact hne h9

theorem ownK_newL {K : Nat} (w : World) (e : TypeId) (cs : List Value) {base g : Nat} (hg : g = w.heap.size) (hl : cs.length = K) (hb : base ≤ w.heap.size) : OwnK K e (w.alloc (.cells cs.toArray e)) base (.slice (some ⟨g, 0, none⟩) 1 1) 1 cs := by
  subst hg
  exact ⟨by simpa using hl, _, 1, rfl, Nat.le_refl _, by simp [maxLen], .inr ⟨_, _, rfl, hb, heap_alloc_new w _, by simp [hl], by simp [← hl]⟩⟩

theorem below_grown1 {W W3 W4 w1 : World} {row : Option Nat} (hB : Below W.heap.size W W3) (hg : W4.grownBy w1 row) (hb : Below W3.heap.size W3 W4) (hv : ∀ k, row = some k → W.heap.size ≤ k) : Below W.heap.size W w1 :=
  (below_chainT hB hb).grown hg (Nat.le_trans hB.size hb.size) hv

theorem blk_grown1 {K : Nat} {e t : TypeId} {W3 W4 w1 : World} {base g n : Nat} {v : Value} {xs : List Value} {cs : Array Value} (hB : Blk W3 g t cs) (hg : W4.grownBy w1 v.ownBlock) (hb : Below W3.heap.size W3 W4) (hS : OwnK K e W3 base v n xs) (hne : e ≠ t) : Blk w1 g t cs :=
  (hB.below hb hB.lt).grown hg (ownK_neblk hS hB hne)

/-- What a row of values holds. -/
def valCs (cs : Nat → Option Value) (o : Nat) (v : V) : Prop := cs o = some (.int .i64 v.k) ∧ cs (o + 1) = some (.int .i64 v.i) ∧ cs (o + 2) = some (.int .i64 v.t) ∧ cs (o + 3) = some (.string v.s) ∧ ∃ A c, cs (o + 4) = some (.slice A v.l.length c)

/-- The cells of values that lie somewhere, as a list. -/
theorem lat_news {W : World} {A : Option Addr} {l : List V} (h : LAt W A l) : ∃ news : List Value, news.length = l.length * 5 ∧ (∀ W', Below W.heap.size W W' → 0 < l.length → ∃ ad, A = some ad ∧ ∀ j u, news[j]? = some u → W'.cell? (ad.add j) = some u) ∧ (∀ u ∈ news, u.oneCell' = true) ∧ ∀ j (h : j < l.length), valCs (fun i => news[i]?) (j * 5) l[j] := by
  rcases Nat.eq_zero_or_pos l.length with h0 | h0
  · refine ⟨[], by simp [h0], fun W' _ h => (by omega), (fun u hu => (by cases hu)), fun j hj => by omega⟩
  · obtain ⟨b, o, rfl, hb, hv⟩ := h.2 h0
    have hcell : ∀ i, i < l.length * 5 → ∃ u, W.cell? ⟨b, o + i, none⟩ = some u ∧ u.oneCell' = true := by
      intro i hi
      have hj : i / 5 < l.length := by omega
      obtain ⟨c0, c1, c2, c3, A', c', c4, -⟩ := VAt_iff.1 (hv _ hj)
      have h5 : i % 5 = 0 ∨ i % 5 = 1 ∨ i % 5 = 2 ∨ i % 5 = 3 ∨ i % 5 = 4 := by omega
      rcases h5 with e | e | e | e | e
      · exact ⟨_, by rw [show o + i = o + i / 5 * 5 by omega]; exact c0, rfl⟩
      · exact ⟨_, by rw [show o + i = o + i / 5 * 5 + 1 by omega]; exact c1, rfl⟩
      · exact ⟨_, by rw [show o + i = o + i / 5 * 5 + 2 by omega]; exact c2, rfl⟩
      · exact ⟨_, by rw [show o + i = o + i / 5 * 5 + 3 by omega]; exact c3, rfl⟩
      · exact ⟨_, by rw [show o + i = o + i / 5 * 5 + 4 by omega]; exact c4, rfl⟩
    have hget : ∀ i, i < l.length * 5 → ((List.range (l.length * 5)).map fun i => (W.cell? ⟨b, o + i, none⟩).getD undef)[i]? = W.cell? ⟨b, o + i, none⟩ := by
      intro i hi
      obtain ⟨u, hu, -⟩ := hcell i hi
      rw [List.getElem?_map, List.getElem?_range hi, Option.map_some, hu]
      rfl
    refine ⟨(List.range (l.length * 5)).map fun i => (W.cell? ⟨b, o + i, none⟩).getD undef, by simp, fun W' hW _ => ⟨_, rfl, fun j u hj => ?_⟩, fun u hu => ?_, fun j hj => ?_⟩
    · have hlt : j < l.length * 5 := by
        have := (List.getElem?_eq_some_iff.1 hj).1
        simpa using this
      rw [hget j hlt] at hj
      have hadd : (⟨b, o, none⟩ : Addr).add j = ⟨b, o + j, none⟩ := by unfold Addr.add; split <;> simp_all
      rw [hadd]
      exact (hW.cell (p := ⟨b, o + j, none⟩) hb).trans hj
    · obtain ⟨i, hi, rfl⟩ := List.mem_map.1 hu
      obtain ⟨u, h1, h2⟩ := hcell i (List.mem_range.1 hi)
      rw [h1]
      exact h2
    · obtain ⟨c0, c1, c2, c3, A', c', c4, -⟩ := VAt_iff.1 (hv j hj)
      refine ⟨?_, ?_, ?_, ?_, A', c', ?_⟩
      · show (List.map _ _)[j * 5]? = _
        rw [hget _ (by omega)]; exact c0
      · show (List.map _ _)[j * 5 + 1]? = _
        rw [hget _ (by omega)]; exact c1
      · show (List.map _ _)[j * 5 + 2]? = _
        rw [hget _ (by omega)]; exact c2
      · show (List.map _ _)[j * 5 + 3]? = _
        rw [hget _ (by omega)]; exact c3
      · show (List.map _ _)[j * 5 + 4]? = _
        rw [hget _ (by omega)]; exact c4

/-- A value, and the ones behind it, in a block. -/
def VRow (w : World) (g : Nat) (cur : Array Value) (vs : List V) : Prop := Blk w g 116 cur ∧ ∀ j (h : j < vs.length), valCs (fun i => cur[i]?) (j * 5) vs[j]

theorem VRow.below {w w' : World} {g : Nat} {cur : Array Value} {vs : List V} (h : VRow w g cur vs) (hb : Below w.heap.size w w') : VRow w' g cur vs := ⟨h.1.below hb h.1.lt, h.2⟩

theorem vrow_of {w : World} {base : Nat} {v' : Value} {v : V} {A3 : Option Addr} {c3 : Nat} {news : List Value} (h : OwnK 5 116 w base v' (1 + v.l.length) ([.int .i64 v.k, .int .i64 v.i, .int .i64 v.t, .string v.s, .slice A3 v.l.length c3] ++ news)) (hn : ∀ j (h : j < v.l.length), valCs (fun i => news[i]?) (j * 5) v.l[j]) :
    ∃ g c cur, v' = .slice (some ⟨g, 0, none⟩) (v :: v.l).length c ∧ base ≤ g ∧ VRow w g cur (v :: v.l) := by
  rw [show (v :: v.l).length = 1 + v.l.length by rw [List.length_cons]; omega]
  obtain ⟨hl, A, c, rfl, h1, h2, h3⟩ := h
  rcases h3 with ⟨-, h0, -⟩ | ⟨g, cur, rfl, hg, hb, h4, h5⟩
  · omega
  · have hc : ∀ i, i < (1 + v.l.length) * 5 → cur[i]? = ([.int .i64 v.k, .int .i64 v.i, .int .i64 v.t, .string v.s, .slice A3 v.l.length c3] ++ news)[i]? := fun i hi => by
      rw [← h5, List.getElem?_take_of_lt hi]
      simp
    refine ⟨g, c, cur, rfl, hg, hb, fun j hj => ?_⟩
    rw [List.length_cons] at hj
    cases j with
    | zero =>
      refine ⟨?_, ?_, ?_, ?_, A3, c3, ?_⟩ <;> (show cur[_]? = _; rw [hc _ (by omega)]; rfl)
    | succ j =>
      obtain ⟨c0, c1, c2, c3', A', c', c4⟩ := hn j (by omega)
      have hx : ∀ r, r < 5 → cur[(j + 1) * 5 + r]? = news[j * 5 + r]? := fun r hr => by
        rw [hc _ (by omega), List.getElem?_append_right (by simp; omega)]
        congr 1
        simp only [List.length_cons, List.length_nil]
        omega
      refine ⟨?_, ?_, ?_, ?_, A', c', ?_⟩
      · exact (hx 0 (by omega)).trans c0
      · exact (hx 1 (by omega)).trans c1
      · exact (hx 2 (by omega)).trans c2
      · exact (hx 3 (by omega)).trans c3'
      · exact (hx 4 (by omega)).trans c4

/-! ### aliasesOf -/
def AlOut (l : List ByteArray) (W : World) (e : Ending) (w' : World) : Prop := ∃ A c, e = .returned (.slice A l.length c) ∧ OwnK 1 9 w' W.heap.size (.slice A l.length c) l.length (sV l) ∧ Below W.heap.size W w'

theorem alsA_step {ps : List PR} {i : Nat} (h : i < ps.length) : alsA (ps.take (i + 1)) = alsA (ps.take i) ++ (if isAl ps[i] then strVs (ps[i].v :: ps[i].v.l) else []) := by
  unfold alsA
  rw [List.take_succ_eq_append_getElem h, List.flatMap_append]
  simp

theorem strVs_step {vs : List V} {j : Nat} (h : j < vs.length) : strVs (vs.take (j + 1)) = strVs (vs.take j) ++ (if vs[j].k == 3 then [vs[j].s] else []) := by
  unfold strVs
  rw [List.take_succ_eq_append_getElem h, List.filter_append, List.map_append]
  congr 1
  rw [List.filter_cons]
  split <;> rfl

theorem strVs_yes {vs : List V} {j : Nat} (h : j < vs.length) (hk : vs[j].k = 3) : strVs (vs.take (j + 1)) = strVs (vs.take j) ++ [vs[j].s] := by
  rw [strVs_step h, if_pos (by simpa using hk)]

theorem strVs_no {vs : List V} {j : Nat} (h : j < vs.length) (hk : vs[j].k ≠ 3) : strVs (vs.take (j + 1)) = strVs (vs.take j) := by
  rw [strVs_step h, if_neg (by simpa using hk), List.append_nil]

set_option maxHeartbeats 6400000 in
set_option maxRecDepth 100000 in
theorem aliasesOf_any (id par : Int) (A1 : Option Addr) (m1 c1 : Nat) (txt : ByteArray) (ps : List PR) (A2 : Option Addr) (c2 : Nat) (W : World) (hP : PsAt W A2 ps) (h20 : ps.length ≤ 20) (hv : ∀ p ∈ ps, p.v.l.length ≤ 20) (hal : ∀ i, (alsA (ps.take i)).length ≤ 500) :
    Calls Tryz.prog 75 #[.agg #[.int .i64 id, .int .i64 par, .slice A1 m1 c1, .string txt, .slice A2 ps.length c2]] W (AlOut (alsA ps) W) := by
  have HP := hide hP
  have HV20 := hide hv
  have HPO : Hid (∀ A c w', OwnK 1 9 w' W.heap.size (.slice A (alsA ps).length c) (alsA ps).length (sV (alsA ps)) → Below W.heap.size W w' → AlOut (alsA ps) W (.returned (.slice A (alsA ps).length c)) w') := hide fun A c w' h1 h2 => ⟨A, c, rfl, h1, h2⟩
  generalize AlOut (alsA ps) W = PO at *
  obtain ⟨iS, hiS, hzS0, hzS1, hzS2⟩ := info_parts info_strL
  obtain ⟨iV, hiV, hzV0, hzV1, hzV2⟩ := info_parts info_valL
  have HIS := hide (And.intro hiS (And.intro hzS0 (And.intro hzS1 hzS2)))
  have HIV := hide (And.intro hiV (And.intro hzV0 (And.intro hzV1 hzV2)))
  have HAL := hide hal
  clear hP hv hal hiS hzS0 hzS1 hzS2 hiV hzV0 hzV1 hzV2
  go_enter Tryz.func75, Tryz.ntmps75
  go_wp2
  go_loopw [3, 11] (fun s3 i9 wr => ∃ (i : Nat) (out : List ByteArray), i ≤ ps.length ∧ i9 = .int .i64 i ∧ Hid (out = alsA (ps.take i)) ∧ Hid (OwnK 1 9 wr W.heap.size s3 out.length (sV out)) ∧ Hid (Below W.heap.size W wr)) (fun _ i9 _ => ps.length - (intOf i9).toNat)
  case atStart => exact ⟨0, [], Nat.zero_le _, rfl, hide rfl, hide OwnK.empty, hide (by repeat (first | with_reducible exact Below.refl _ _ | with_reducible refine bl_plus ?_ | with_reducible refine bl_alloc ?_ _ | with_reducible refine bl_drew ?_ | with_reducible refine bl_drewN ?_ _))⟩
  case round =>
    obtain ⟨i, out, hi, rfl, HO, HS, HB⟩ := hrel
    obtain ⟨A3, c3, rfl, hs1, hs2, hs3⟩ := ownK_form HS.out
    obtain ⟨W1, hW1⟩ : ∃ W1 : World, W1 = wr := ⟨_, rfl⟩
    subst hW1
    by_cases hlt : i < ps.length
    · obtain ⟨b, o, rfl, hb, hp⟩ := (HP.out.below HB.out).2 (by omega)
      obtain ⟨p0, -, p1, p2, p3, p4, A4, c4, p5, hL⟩ := (hp i hlt).cells
      have hstep := alsA_step hlt
      have HL20 := hide (HV20.out ps[i] (List.getElem_mem hlt))
      obtain ⟨news, hn1, hn2, hn3, hn4⟩ := lat_news hL
      have HN := hide (And.intro hn1 (And.intro hn2 (And.intro hn3 hn4)))
      have i1 : (i : Int) < (ps.length : Int) := by omega
      clear hp hL hn1 hn2 hn3 hn4
      have HA1 := HAL.out (i + 1)
      rw [hstep] at HA1
      have HSTEP := hide hstep
      clear hstep
      have hal : isAl ps[i] = (ps[i].n.toList == [97, 108, 105, 97, 115]) := by
        unfold isAl
        rw [show aliasS.toList = [97, 108, 105, 97, 115] from Lib.toList_data aliasS]
      cases hq : isAl ps[i] with
      | false =>
        rw [hq] at hal
        have HX := hide (by have := HSTEP.out; rw [hq, ← HO.out] at this; simpa using this.symm : out = alsA (ps.take (i + 1)))
        have t1 := hal.symm
        clear hal hq HSTEP HA1 HN HL20
        generalize ps[i] = p at *
        go_wp2
        go_roundw
        case rel => exact ⟨i + 1, out, by omega, by go_num, hide (HX.out), hide (ownK_below HS.out (by repeat (first | with_reducible exact Below.refl _ _ | with_reducible refine bl_plus ?_ | with_reducible refine bl_alloc ?_ _ | with_reducible refine bl_drew ?_ | with_reducible refine bl_drewN ?_ _))), hide (below_chainT HB.out (by repeat (first | with_reducible exact Below.refl _ _ | with_reducible refine bl_plus ?_ | with_reducible refine bl_alloc ?_ _ | with_reducible refine bl_drew ?_ | with_reducible refine bl_drewN ?_ _)))⟩
        case measure => simp [intOf]; omega
      | true =>
        rw [hq] at hal HA1
        rw [← HO.out] at HA1
        rw [if_pos rfl] at HA1
        have HX := hide (by have := HSTEP.out; rw [hq, ← HO.out] at this; simpa using this.symm : out ++ strVs (ps[i].v :: ps[i].v.l) = alsA (ps.take (i + 1)))
        have t1 := hal.symm
        have HA2 := hide HA1
        clear hal hq HSTEP HA1
        generalize ps[i] = p at *
        obtain ⟨pn, pv⟩ := p
        obtain ⟨vk, vi, vt, vs, vl⟩ := pv
        simp only [V.k, V.i, V.t, V.s, V.l] at p0 p1 p2 p3 p4 p5 HL20 HN t1
        have hq20 : vl.length ≤ 20 := HL20.out
        have HX := (show Hid (out ++ strVs (V.mk vk vi vt vs vl :: vl) = alsA (ps.take (i + 1))) from HX)
        have HA2 := (show Hid ((out ++ strVs (V.mk vk vi vt vs vl :: vl)).length ≤ 500) from HA2)
        have hSrc := hide (fun (W' : World) (hb : Below W1.heap.size W1 W') => HN.out.2.1 W' hb)
        go_upto_block 5 with (at_builtin; go_loud (refine wpList_append_v rfl (.tmp 20) (.tmp 23) rfl rfl Tryz.underlying114 HIV.out.1 HIV.out.2.1 HIV.out.2.2.1 (by decide) rfl (by have := HIV.out.2.2.2; omega) W1.heap.size 1 vl.length c4 (.slice (some ⟨W1.heap.size + 1, 0, none⟩) 1 1) [.int .i64 vk, .int .i64 vi, .int .i64 vt, .string vs, .slice A4 vl.length c4] news A4 rfl (ownK_newL _ _ _ (by simp) rfl (by simp)) (by decide) HN.out.1 HN.out.2.2.1 rfl (hSrc.out _ (by repeat (first | with_reducible exact Below.refl _ _ | with_reducible refine bl_plus ?_ | with_reducible refine bl_alloc ?_ _ | with_reducible refine bl_drew ?_ | with_reducible refine bl_drewN ?_ _))) (by omega) (by simp only [World.size_alloc]; omega) ?_; intro v' w1 hown hgr hfr; have HBW := hide (show Below W1.heap.size W1 w1 from (show Below W1.heap.size W1 _ from (by repeat (first | with_reducible exact Below.refl _ _ | with_reducible refine bl_plus ?_ | with_reducible refine bl_alloc ?_ _ | with_reducible refine bl_drew ?_ | with_reducible refine bl_drewN ?_ _))).grown hgr (by simp only [World.size_alloc]; omega) (fun k hk => Nat.le_of_lt (Nat.lt_of_lt_of_eq (Nat.lt_succ_self W1.heap.size) (by simpa [Value.ownBlock] using hk)))); obtain ⟨g', c', cur, rfl, hg', hrow⟩ := vrow_of (v := .mk vk vi vt vs vl) hown HN.out.2.2.2; have HROW := hide hrow; have hv21 : (V.mk vk vi vt vs vl :: vl).length ≤ 21 := (by rw [List.length_cons]; omega); dsimp only [V.l] at HROW ⊢; clear hown hgr hfr hrow; generalize V.mk vk vi vt vs vl :: vl = vv at *))
        have HS1 := hide (ownK_below HS.out HBW.out)
        have HB1 := hide (below_chainT HB.out HBW.out)
        clear HS HB HN hSrc p0 p1 p2 p3 p4 p5 HBW hg'
        go_wp2
        go_loopw [3, 26] (fun s3 i8 wr => ∃ (j : Nat) (o2 : List ByteArray), j ≤ vv.length ∧ i8 = .int .i64 j ∧ Hid (o2 = out ++ strVs (vv.take j)) ∧ Hid (OwnK 1 9 wr W.heap.size s3 o2.length (sV o2)) ∧ Hid (Below W.heap.size W wr) ∧ Hid (VRow wr g' cur vv)) (fun _ i8 _ => vv.length - (intOf i8).toNat)
        case atStart => exact ⟨0, out, Nat.zero_le _, rfl, hide (by simp [strVs]), hide (ownK_below HS1.out (by repeat (first | with_reducible exact Below.refl _ _ | with_reducible refine bl_plus ?_ | with_reducible refine bl_alloc ?_ _ | with_reducible refine bl_drew ?_ | with_reducible refine bl_drewN ?_ _))), hide (below_chainT HB1.out (by repeat (first | with_reducible exact Below.refl _ _ | with_reducible refine bl_plus ?_ | with_reducible refine bl_alloc ?_ _ | with_reducible refine bl_drew ?_ | with_reducible refine bl_drewN ?_ _))), hide (HROW.out.below (by repeat (first | with_reducible exact Below.refl _ _ | with_reducible refine bl_plus ?_ | with_reducible refine bl_alloc ?_ _ | with_reducible refine bl_drew ?_ | with_reducible refine bl_drewN ?_ _)))⟩
        case round =>
          clear HS1 HB1 HROW
          obtain ⟨j, o2, hj, rfl, HO2, HS, HB, HROW⟩ := hrel
          obtain ⟨A5, c5, rfl, hs4, hs5, hs6⟩ := ownK_form HS.out
          obtain ⟨W3, hW3⟩ : ∃ W3 : World, W3 = wr := ⟨_, rfl⟩
          subst hW3
          by_cases hlt2 : j < vv.length
          · obtain ⟨x0, x1, x2, x3, A6, c6, x4⟩ := HROW.out.2 j hlt2
            have hb5 := HROW.out.1
            have y0 := (hb5.cell (j * 5)).trans x0
            have y1 := (hb5.cell (j * 5 + 1)).trans x1
            have y2 := (hb5.cell (j * 5 + 2)).trans x2
            have y3 := (hb5.cell (j * 5 + 3)).trans x3
            have y4 := (hb5.cell (j * 5 + 4)).trans x4
            have hg5 := hb5.lt
            have i2 : (j : Int) < (vv.length : Int) := by omega
            have HSTY := hide (fun h => strVs_yes hlt2 h)
            have HSTN := hide (fun h => strVs_no hlt2 h)
            have HLEN := hide (show o2.length ≤ 500 + 20 from by
              rw [HO2.out, List.length_append]
              have h1 := strVs_len (vv.take j)
              rw [List.length_take] at h1
              have := HA2.out
              rw [List.length_append] at this
              omega)
            clear x0 x1 x2 x3 x4 hb5
            generalize vv[j] = v at *
            obtain ⟨vk2, vi2, vt2, vs2, vl2⟩ := v
            simp only [V.k, V.i, V.t, V.s, V.l] at y0 y1 y2 y3 y4 HSTY HSTN
            by_cases hk3 : vk2 = 3
            · have HX2 := hide (by rw [HSTY.out hk3, ← List.append_assoc, ← HO2.out] : o2 ++ [vs2] = out ++ strVs (vv.take (j + 1)))
              subst hk3
              have HBk := hide HROW.out.1
              have hl5 : o2.length < 1000000 := by have := HLEN.out; omega
              clear HSTY HSTN HO2 HLEN
              go_wp2_with (at_builtin; go_loud (refine wpList_append_k rfl (.tmp 33) (.tmp 36) rfl rfl Tryz.underlying109 HIS.out.1 HIS.out.2.1 HIS.out.2.2.1 (by decide) rfl (by have := HIS.out.2.2.2; omega) W.heap.size o2.length (.slice A5 o2.length c5) (sV o2) [.string vs2] (W3.heap.size + 1) rfl (ownK_below HS.out (by repeat (first | with_reducible exact Below.refl _ _ | with_reducible refine bl_plus ?_ | with_reducible refine bl_alloc ?_ _ | with_reducible refine bl_drew ?_ | with_reducible refine bl_drewN ?_ _))) rfl (by intro u hu; rw [List.mem_singleton.1 hu]; rfl) rfl (newN_cells (by simp)) hl5 (by have := HB.out.size; simp only [World.size_alloc]; omega) ?_; intro v' w1 hown hgr hfr; have HOW := hide hown; have HBW := hide (below_grown1 HB.out hgr (by repeat (first | with_reducible exact Below.refl _ _ | with_reducible refine bl_plus ?_ | with_reducible refine bl_alloc ?_ _ | with_reducible refine bl_drew ?_ | with_reducible refine bl_drewN ?_ _)) (fun k hk => (HS.out.lt k hk).1)); have HRW := hide (blk_grown1 HBk.out hgr (by repeat (first | with_reducible exact Below.refl _ _ | with_reducible refine bl_plus ?_ | with_reducible refine bl_alloc ?_ _ | with_reducible refine bl_drew ?_ | with_reducible refine bl_drewN ?_ _)) HS.out (by decide)); clear hown hgr hfr))
              go_roundw
              case rel => exact ⟨j + 1, o2 ++ [vs2], by omega, by go_num, HX2, hide (by rw [List.length_append, sV_snoc]; exact HOW.out), HBW, hide ⟨HRW.out, HROW.out.2⟩⟩
              case measure => simp [intOf]; omega
            · have e3 : (vk2 == 3) = false := beq_eq_false_iff_ne.2 hk3
              have HX2 := hide (by rw [HSTN.out hk3]; exact HO2.out : o2 = out ++ strVs (vv.take (j + 1)))
              clear hk3 HSTY HSTN
              go_wp2
              go_roundw
              case rel => exact ⟨j + 1, o2, by omega, by go_num, HX2, hide (ownK_below HS.out (by repeat (first | with_reducible exact Below.refl _ _ | with_reducible refine bl_plus ?_ | with_reducible refine bl_alloc ?_ _ | with_reducible refine bl_drew ?_ | with_reducible refine bl_drewN ?_ _))), hide (below_chainT HB.out (by repeat (first | with_reducible exact Below.refl _ _ | with_reducible refine bl_plus ?_ | with_reducible refine bl_alloc ?_ _ | with_reducible refine bl_drew ?_ | with_reducible refine bl_drewN ?_ _))), hide (HROW.out.below (by repeat (first | with_reducible exact Below.refl _ _ | with_reducible refine bl_plus ?_ | with_reducible refine bl_alloc ?_ _ | with_reducible refine bl_drew ?_ | with_reducible refine bl_drewN ?_ _)))⟩
              case measure => simp [intOf]; omega
          · obtain rfl : j = vv.length := by omega
            have HX2 := hide (by have := HO2.out; rw [List.take_length] at this; rw [this]; exact HX.out : o2 = alsA (ps.take (i + 1)))
            go_wp2
            go_roundw
            case rel => exact ⟨i + 1, o2, by omega, by go_num, HX2, HS, HB⟩
            case measure => simp [intOf]; omega
    · obtain rfl : i = ps.length := by omega
      have HX := hide (by have := HO.out; rwa [List.take_length] at this : out = alsA ps)
      have hout := HX.out
      clear HO HX
      subst hout
      go_wp2
      exact HPO.out _ _ _ HS.out HB.out

end Go.Proofs.YtioppoaijehicaaGreatDoor
