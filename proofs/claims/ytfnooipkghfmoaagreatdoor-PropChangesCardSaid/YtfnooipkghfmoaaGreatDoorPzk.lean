/-
  WALKS: slices.DeleteFunc at any row of properties; a list without a name (the program's).
-/
import Derived.Test.YtfnooipkghfmoaaGreatDoorPzg
import Derived.Test.YtfnooipkghfmoaaGreatDoorPzh
import Derived.Test.YtfnooipkghfmoaaGreatDoorPzj
import Derived.Deep.RegionLaw
import Derived.Test.YtfnooipkghfmoaaGreatDoorPpb
import Derived.Test.YtfnooipkghfmoaaGreatDoorPpc
import Derived.Test.YtfnooipkghfmoaaGreatDoorPph
import Derived.Test.YtfnooipkghfmoaaGreatDoorAlv
set_option linter.all false
namespace Go.Proofs.YtfnooipkghfmoaaGreatDoor
open Go.RowKit Go.Lib

set_option maxHeartbeats 1600000 in
theorem indexNil_any (fid : FuncId) (p : Value) (w : World) :
    Calls Tryz.prog 79 #[.slice none 0 0, .func (.func fid) #[] #[p]] w fun e w' => e = .returned (.int .i64 (-1)) ∧ w = w' := by
  go_enter Tryz.func79, Tryz.ntmps79
  go_wp2
  go_loop [8] (fun i => i = .int .i64 0) (fun _ => 0)
  case atStart => rfl
  case round =>
    subst hrel
    go_wp2
    go_ret
    exact ⟨rfl, rfl⟩
set_option maxHeartbeats 1600000 in
theorem deleteNil_any (fid : FuncId) (p : Value) (w : World) :
    Calls Tryz.prog 75 #[.slice none 0 0, .func (.func fid) #[] #[p]] w fun e w' => e = .returned (.slice none 0 0) ∧ w = w' := by
  go_enter Tryz.func75, Tryz.ntmps75
  go_wp2_with (go_at_call 79; (with_reducible refine (indexNil_any fid p _).mono ?_); rintro e w' ⟨rfl, rfl⟩)
  go_ret
  exact ⟨rfl, rfl⟩
theorem deleteP_any (fid : FuncId) (hF : Asks fid) (base c : Nat) (A : Option Addr) (ps : List CP) (g : Nat) (x : ByteArray) (w : World) (hlen : ps.length ≤ 5000) (hr : Row6 w base (.slice A ps.length c) ps) (hx : w.cell? ⟨g, 0, none⟩ = some (.string x)) (hg : g < base) (hb : base ≤ w.heap.size) :
    Calls Tryz.prog 75 #[.slice A ps.length c, .func (.func fid) #[] #[.pointer (some ⟨g, 0, none⟩)]] w fun e w' => (e = .returned (.slice A (others x ps).length c) ∧ Row6 w' base (.slice A (others x ps).length c) (others x ps)) ∧ Below base w w' := by
  have hcl := hr.clip
  cases A with
  | none =>
    obtain rfl := hcl.2.2.2.2.1 rfl
    have h0 : ps = [] := List.length_eq_zero_iff.1 (by have := hcl.2.2.1; omega)
    subst h0
    refine (deleteNil_any fid _ w).mono ?_
    rintro e w' ⟨rfl, rfl⟩
    exact ⟨⟨rfl, row6_nil⟩, Below.refl _ _⟩
  | some a =>
    obtain ⟨gr, rfl⟩ := hcl.2.2.2.2.2 a rfl
    have hbg := (hr.own.lt gr rfl).1
    refine (deleteRow_any fid hF base gr c ps g x w hlen hr hx (by omega) (by omega)).mono ?_
    rintro e w' ⟨rfl, h1, h2⟩
    exact ⟨⟨rfl, h1⟩, (Below.refl base w).grown h2 hb (fun k hk => by
      have : gr = k := Option.some.inj hk
      omega)⟩

/-- A row of the call's own that reads as a list. -/
def RowIs (P : List PR → Prop) (w : World) (e : Ending) (w' : World) : Prop := ∃ A c qs, e = .returned (.slice A qs.length c) ∧ Row6 w' w.heap.size (.slice A qs.length c) qs ∧ P (qs.map CP.pr) ∧ Below w.heap.size w w'

theorem Row6.low {w : World} {base b2 : Nat} {v : Value} {ps : List CP} (h : Row6 w base v ps) (hb : b2 ≤ base) : Row6 w b2 v ps := ⟨ownK_low h.own hb, h.ins, h.nms⟩

set_option maxHeartbeats 3200000 in
set_option maxRecDepth 100000 in
theorem without_any (A : Option Addr) (c : Nat) (ps : List CP) (x : ByteArray) (w : World) (hA : PsC w A ps) (hlen : ps.length ≤ 20) (hfit : ∀ p ∈ ps, p.q.x.fits) :
    Calls Tryz.prog 31 #[.slice A ps.length c, .string x] w (RowIs (fun l => l = othersR x (ps.map CP.pr)) w) := by
  have hx0 : (w.alloc (.cells #[.string x] 9)).cell? ⟨w.heap.size, 0, none⟩ = some (.string x) := (Blk.new w _ _).cell 0
  have hlt0 : w.heap.size < (w.alloc (.cells #[.string x] 9)).heap.size := (Blk.new w _ _).lt
  have HPO : Hid (∀ (A' : Option Addr) (c' : Nat) (qs : List CP) (w' : World), Row6 w' (w.heap.size + 1) (.slice A' (others x qs).length c') (others x qs) → qs.map CP.pr = ps.map CP.pr → Below (w.alloc (.cells #[.string x] 9)).heap.size (w.alloc (.cells #[.string x] 9)) w' → RowIs (fun l => l = othersR x (ps.map CP.pr)) w (.returned (.slice A' (others x qs).length c')) w') :=
    hide fun A' c' qs w' h1 h2 h3 => ⟨A', c', others x qs, rfl, h1.low (by omega), by rw [others_map, h2], bl_trans (bl_alloc (Below.refl _ _) _) h3⟩
  generalize RowIs (fun l => l = othersR x (ps.map CP.pr)) w = PO at *
  have HCP := hide (copyProps_any A c ps (w.alloc (.cells #[.string x] 9)) (hA.below (bl_alloc (Below.refl _ _) _)) (by omega) hfit)
  have hsz : (w.alloc (.cells #[.string x] 9)).heap.size = w.heap.size + 1 := by simp
  have HDL : Hid (∀ (A' : Option Addr) (qs : List CP) (W : World), Below (w.alloc (.cells #[.string x] 9)).heap.size (w.alloc (.cells #[.string x] 9)) W → qs.map CP.pr = ps.map CP.pr → Row6 W (w.heap.size + 1) (.slice A' ps.length ps.length) qs →
      Calls Tryz.prog 75 #[.slice A' ps.length ps.length, .func (.func 82) #[] #[.pointer (some ⟨w.heap.size, 0, none⟩)]] W fun e w' => ∃ v, e = .returned v ∧ PO (.returned v) w') := hide fun A' qs W hb hq hr => by
    have hql : qs.length = ps.length := by have := congrArg List.length hq; simpa using this
    rw [← hql] at hr ⊢
    refine (deleteP_any _ asks_without (w.heap.size + 1) qs.length A' qs w.heap.size x W (by omega) hr ((hb.cell (p := ⟨w.heap.size, 0, none⟩) (by omega)).trans hx0) (by omega) (by have := hb.size; omega)).mono ?_
    rintro e w' ⟨⟨rfl, h1⟩, h2⟩
    exact ⟨_, rfl, HPO.out _ _ _ _ h1 hq (by rw [hsz] at hb ⊢; exact hb.trans h2)⟩
  unfold CopyPsOut at HCP
  simp only [List.length_map, hsz] at HCP
  have HSZ := hide hsz
  clear hA hfit hsz
  go_enter Tryz.func31, Tryz.ntmps31
  go_wp2_with (first | (go_at_call 81; refine HCP.out.mono ?_; rintro e w' ⟨A1, qs, rfl, hq, hrow, hbl⟩; have HQ := hide hq; have HR := hide hrow; have HB := hide (show Below (w.alloc (.cells #[.string x] 9)).heap.size (w.alloc (.cells #[.string x] 9)) w' from by rw [HSZ.out]; exact hbl); clear hq hrow hbl) | (go_at_call 75; refine (HDL.out _ _ _ HB.out HQ.out HR.out).mono ?_; rintro e w' ⟨v, rfl, hpo⟩; have HPV := hide hpo; clear hpo))
  exact HPV.out

end Go.Proofs.YtfnooipkghfmoaaGreatDoor
/-
  WALK: a list with a value for a name (the program's).
-/
namespace Go.Proofs.YtfnooipkghfmoaaGreatDoor
open Go.RowKit Go.Lib

theorem withIs_sorted {x : ByteArray} {v : V} {l : List PR} {qs : List CP} {c : CP} (hv : v.k ≠ 0) (hq : qs.map CP.pr = othersR x l) (hc : c.pr = ⟨x, v⟩) : WithIs x v l ((sortCP (qs ++ [c])).map CP.pr) := by
  refine .inr ⟨hv, ?_, ?_⟩
  · have := (sortCP_perm2 (qs ++ [c])).map CP.pr
    rw [List.map_append, hq, List.map_singleton, hc] at this
    exact this
  · rw [List.pairwise_map]
    exact sortCP_sorted _

set_option maxHeartbeats 6400000 in
set_option maxRecDepth 100000 in
theorem with_any (A : Option Addr) (c : Nat) (ps : List CP) (x : ByteArray) (v : V) (A2 : Option Addr) (c2 : Nat) (w : World) (hA : PsC w A ps) (hlen : ps.length ≤ 20) (hfit : ∀ p ∈ ps, p.q.x.fits) (hx : x.size ≤ maxLen) (hvf : v.fits) (hv : LAt w A2 v.l) :
    Calls Tryz.prog 27 #[.slice A ps.length c, .string x, v.arg A2 c2] w (RowIs (WithIs x v (ps.map CP.pr)) w) := by
  obtain ⟨k, i, t, s, l⟩ := v
  have HX := hide hx
  have HWO := hide (without_any A c ps x (w.alloc (.cells #[.int .i64 k, .int .i64 i, .int .i64 t, .string s, .slice A2 l.length c2] 25)) (hA.below (bl_alloc (Below.refl _ _) _)) hlen hfit)
  have hWS : (w.alloc (.cells #[.int .i64 k, .int .i64 i, .int .i64 t, .string s, .slice A2 l.length c2] 25)).heap.size = w.heap.size + 1 := by simp
  unfold RowIs at HWO
  have HPO : Hid (∀ (A' : Option Addr) (c' : Nat) (qs : List CP) (w' : World), Row6 w' w.heap.size (.slice A' qs.length c') qs → WithIs x (.mk k i t s l) (ps.map CP.pr) (qs.map CP.pr) → Below w.heap.size w w' → RowIs (WithIs x (.mk k i t s l) (ps.map CP.pr)) w (.returned (.slice A' qs.length c')) w') :=
    hide fun A' c' qs w' h1 h2 h3 => ⟨A', c', qs, rfl, h1, h2, h3⟩
  have hlq : ∀ qs : List CP, qs.map CP.pr = othersR x (ps.map CP.pr) → qs.length ≤ 20 := fun qs hq => by
    have h1 := congrArg List.length hq
    rw [List.length_map] at h1
    have h2 : (othersR x (ps.map CP.pr)).length ≤ (ps.map CP.pr).length := List.length_filter_le ..
    rw [List.length_map] at h2
    omega
  have HLQ := hide hlq
  generalize RowIs (WithIs x (.mk k i t s l) (ps.map CP.pr)) w = PO at *
  clear hA hfit hx hlq
  simp only [V.arg, V.k, V.i, V.t, V.s, V.l] at *
  by_cases hk : k = 0
  · subst hk
    clear hvf hv
    go_enter Tryz.func27, Tryz.ntmps27
    go_wp2_with (go_at_call 31; refine HWO.out.mono ?_; rintro e w' ⟨A1, c1, qs, rfl, hrow, hq, hbl⟩; have HFIN := hide (HPO.out A1 c1 qs w' (hrow.low (by rw [hWS]; omega)) (.inl ⟨rfl, hq⟩) (bl_trans (bl_alloc (Below.refl _ _) _) hbl)); obtain ⟨os1, n1, rfl⟩ := below_plus hbl; clear hrow hq hbl)
    exact HFIN.out
  · have hk0 : (k == 0) = false := by simp [hk]
    obtain ⟨iP, hiP, hzP0, hzP1, hzP2⟩ := info_parts info_prop
    have HIP := hide (And.intro hiP (And.intro hzP0 (And.intro hzP1 hzP2)))
    have HCC := hide (fun W (hbw : Below w.heap.size w W) => copyValue_any (.mk k i t s l) hvf A2 c2 W ((show LAt w A2 l from hv).below hbw))
    unfold CopyOut at HCC
    simp only [V.arg, V.k, V.i, V.t, V.s, V.l] at HCC
    clear hiP hzP0 hzP1 hzP2 hvf hv
    have HK := hide hk
    clear hk
    go_enter Tryz.func27, Tryz.ntmps27
    go_upto_region 4 with (go_at_call 31; refine HWO.out.mono ?_; rintro e w' ⟨A1, c1, qs, rfl, hrow, hq, hbl⟩; rw [hWS] at hrow; have HR := hide hrow; have HQ := hide hq; have HB := hide hbl; obtain ⟨os1, n1, rfl⟩ := below_plus hbl; clear hrow hq hbl)
    have HBW := hide (bl_trans (bl_alloc (Below.refl _ _) _) HB.out)
    have hblk := Blk.plus (os := os1) (n := n1) (Blk.new w 25 #[.int .i64 k, .int .i64 i, .int .i64 t, .string s, .slice A2 l.length c2])
    have v0 := hblk.cell 0
    have v1 := hblk.cell 1
    have v2 := hblk.cell 2
    have v3 := hblk.cell 3
    have v4 := hblk.cell 4
    have hg6 := hblk.lt
    clear hblk HWO HB
    generalize (plus (w.alloc (.cells #[.int .i64 k, .int .i64 i, .int .i64 t, .string s, .slice A2 l.length c2] 25)) os1 n1) = V at *
    have hq20 := HLQ.out qs HQ.out
    clear hWS HLQ
    go_upto_region 5 with (first | (go_at_call 32; refine (HCC.out _ HBW.out).mono ?_; rintro e w' ⟨A3, rfl, hA3, hl3, hbl⟩; have HL3 := hide hl3; have HR3 := hide (HR.out.below hbl); have HB3 := hide hbl; clear hA3 hl3 hbl) | (at_builtin; refine wpList_append_m rfl (.tmp 15) (.tmp 20) rfl rfl Tryz.underlying22 HIP.out.1 HIP.out.2.1 HIP.out.2.2.1 (by decide) rfl (by have := HIP.out.2.2.2; omega) (w.heap.size + 1) qs.length 1 (.slice A1 qs.length c1) (flatCP qs) [.string x, .int .i64 k, .int .i64 i, .int .i64 t, .string s, .slice A3 l.length l.length] _ rfl (ownK_alloc HR3.out.own _) (by decide) rfl (by intro u hu; simp only [List.mem_cons, List.not_mem_nil, or_false] at hu; rcases hu with rfl | rfl | rfl | rfl | rfl | rfl <;> rfl) rfl (newN_cells (cs := [_, _, _, _, _, _]) rfl) (by omega) (by have h2 := HB3.out.size; simp only [World.size_alloc]; omega) ?_; intro v' w1 hown1 hgr1 hfr1; obtain ⟨A9, c9, rfl, _⟩ := ownK_form hown1; have HN := hide hown1; have HGR := hide hgr1; have HFR := hide hfr1; clear hown1 hgr1 hfr1))
    have hrow := Row6.push (p := ⟨x, ⟨.mk k i t s l, A3, l.length⟩⟩) (HR3.out.below (bl_alloc (Below.refl _ _) (.cells #[.string x, .int .i64 k, .int .i64 i, .int .i64 t, .string s, .slice A3 l.length l.length] 53))) HGR.out HFR.out HN.out
      ((HL3.out.frame (fun b hb => Below.heap_alloc _ _ b hb.2)).mono (fun b hb => ⟨by rw [World.size_alloc]; omega, fun e => by
        have h1 := (HR.out.own.lt b e).2
        have h2 := hb.1
        omega⟩)) HX.out
    have hbw1 : Below w.heap.size w w1 := (bl_alloc (bl_trans HBW.out HB3.out) _).grown HGR.out (by have h1 := HB3.out.size; simp only [World.size_alloc]; omega) (fun k hk => by have := (HR.out.own.lt k hk).1; omega)
    have hlen9 : (qs ++ [(⟨x, ⟨.mk k i t s l, A3, l.length⟩⟩ : CP)]).length = qs.length + 1 := by rw [List.length_append]; rfl
    have hw9 := withIs_sorted (x := x) (v := .mk k i t s l) (c := ⟨x, ⟨.mk k i t s l, A3, l.length⟩⟩) HK.out HQ.out rfl
    generalize qs ++ [(⟨x, ⟨.mk k i t s l, A3, l.length⟩⟩ : CP)] = xs at hrow hlen9 hw9
    rw [← hlen9] at hrow
    have hsrt := sortRow_any 73 (Go.Proofs.enters_of Tryz.func73 (by kernel_rfl) rfl) lessA_any (w.heap.size + 1) c9 A9 xs w1 hrow (by omega)
    rw [hlen9] at hsrt
    have hfin : ∀ w2, w1.grownBy w2 (Value.slice A9 (qs.length + 1) c9).ownBlock → Row6 w2 (w.heap.size + 1) (.slice A9 (qs.length + 1) c9) (sortCP xs) → PO (.returned (.slice A9 (qs.length + 1) (qs.length + 1))) w2 ∧ qs.length + 1 ≤ c9 ∧ c9 ≤ maxLen ∧ (A9 = none → c9 = 0) ∧ (∀ a, A9 = some a → ∃ g, a = ⟨g, 0, none⟩) := by
      intro w2 hg hr
      obtain ⟨hn, hr2, h3⟩ := hr.clip
      refine ⟨?_, h3⟩
      rw [hn] at hr2 ⊢
      exact HPO.out A9 (sortCP xs).length (sortCP xs) w2 (hr2.low (by omega)) hw9 (hbw1.grown hg hbw1.size (fun k hk => by have := (hrow.own.lt k (by rw [hlen9]; exact hk)).1; omega))
    have HSRT := hide hsrt
    have HFIN := hide hfin
    clear hrow hbw1 hlen9 hw9 hsrt hfin
    go_wp2_with (first | (go_at_call 72; refine HSRT.out.mono ?_; rintro e w' ⟨rfl, hg2, hr2⟩; have HF2 := hide (HFIN.out _ hg2 hr2); clear hg2 hr2) | (go_at_call 30; refine (clipP_any A9 (qs.length + 1) c9 _ HF2.out.2.1 HF2.out.2.2.1 HF2.out.2.2.2.1 HF2.out.2.2.2.2).mono ?_; rintro e w' ⟨rfl, rfl⟩))
    exact HF2.out.1

end Go.Proofs.YtfnooipkghfmoaaGreatDoor
/-
  WALK: a list with a value for a name (the reference's).
-/
namespace Go.Proofs.YtfnooipkghfmoaaGreatDoor
open Go.RowKit Go.Lib

set_option maxHeartbeats 6400000 in
set_option maxRecDepth 100000 in
theorem withR_any (A : Option Addr) (c : Nat) (ps : List CP) (x : ByteArray) (v : V) (A2 : Option Addr) (c2 : Nat) (w : World) (hA : PsC w A ps) (hlen : ps.length ≤ 20) (hx : x.size ≤ maxLen) (hv : LAt w A2 v.l) :
    Calls Tryz.prog 28 #[.slice A ps.length c, .string x, v.arg A2 c2] w (RowIs (WithIs x v (ps.map CP.pr)) w) := by
  obtain ⟨k, i, t, s, l⟩ := v
  have HX := hide hx
  have hv : LAt w A2 l := hv
  have hbw1 : Below w.heap.size w ((w.alloc (.cells #[.string x] 9)).alloc (.cells #[.int .i64 k, .int .i64 i, .int .i64 t, .string s, .slice A2 l.length c2] 25)) := bl_alloc (bl_alloc (Below.refl _ _) _) _
  have hsz : ((w.alloc (.cells #[.string x] 9)).alloc (.cells #[.int .i64 k, .int .i64 i, .int .i64 t, .string s, .slice A2 l.length c2] 25)).heap.size = w.heap.size + 2 := by simp
  have hx1 : ((w.alloc (.cells #[.string x] 9)).alloc (.cells #[.int .i64 k, .int .i64 i, .int .i64 t, .string s, .slice A2 l.length c2] 25)).cell? ⟨w.heap.size, 0, none⟩ = some (.string x) := (Blk.alloc (Blk.new w 9 #[.string x]) _).cell 0
  have HCL := hide (clonePs_any A c ps ((w.alloc (.cells #[.string x] 9)).alloc (.cells #[.int .i64 k, .int .i64 i, .int .i64 t, .string s, .slice A2 l.length c2] 25)) (hA.below hbw1) (by omega))
  unfold RowOut at HCL
  rw [hsz] at HCL
  have HDL := hide (fun (W : World) (A' : Option Addr) (c' : Nat) (hb : Below (w.heap.size + 2) ((w.alloc (.cells #[.string x] 9)).alloc (.cells #[.int .i64 k, .int .i64 i, .int .i64 t, .string s, .slice A2 l.length c2] 25)) W) (hr : Row6 W (w.heap.size + 2) (.slice A' ps.length c') ps) => (by
    refine (deleteP_any _ asks_with (w.heap.size + 2) c' A' ps w.heap.size x W (by omega) hr ((hb.cell (p := ⟨w.heap.size, 0, none⟩) (by show w.heap.size < _; omega)).trans hx1) (by omega) (by have := hb.size; omega)).mono ?_
    rintro e w' ⟨⟨rfl, h1⟩, h2⟩
    exact ⟨rfl, h1, hb.trans h2⟩ : Calls Tryz.prog 75 #[.slice A' ps.length c', .func (.func 77) #[] #[.pointer (some ⟨w.heap.size, 0, none⟩)]] W fun e w' => e = .returned (.slice A' (others x ps).length c') ∧ Row6 w' (w.heap.size + 2) (.slice A' (others x ps).length c') (others x ps) ∧ Below (w.heap.size + 2) ((w.alloc (.cells #[.string x] 9)).alloc (.cells #[.int .i64 k, .int .i64 i, .int .i64 t, .string s, .slice A2 l.length c2] 25)) w'))
  have HPO : Hid (∀ (A' : Option Addr) (c' : Nat) (qs : List CP) (w' : World), Row6 w' w.heap.size (.slice A' qs.length c') qs → WithIs x (.mk k i t s l) (ps.map CP.pr) (qs.map CP.pr) → Below w.heap.size w w' → RowIs (WithIs x (.mk k i t s l) (ps.map CP.pr)) w (.returned (.slice A' qs.length c')) w') :=
    hide fun A' c' qs w' h1 h2 h3 => ⟨A', c', qs, rfl, h1, h2, h3⟩
  have hq20 : (others x ps).length ≤ 20 := by have : (others x ps).length ≤ ps.length := List.length_filter_le ..; omega
  have HQ := hide (others_map x ps)
  generalize RowIs (WithIs x (.mk k i t s l) (ps.map CP.pr)) w = PO at *
  have HBX := hide hbw1
  clear hA hx hx1 hbw1
  simp only [V.arg, V.k, V.i, V.t, V.s, V.l] at *
  generalize others x ps = qs at *
  by_cases hk : k = 0
  · subst hk
    clear hv
    go_enter Tryz.func28, Tryz.ntmps28
    go_wp2_with (first | (go_at_call 76; refine HCL.out.mono ?_; rintro e w' ⟨A1, c1, rfl, hrow, hbl⟩; have HR := hide hrow; have HB := hide hbl; clear hrow hbl) | (go_at_call 75; refine (HDL.out _ _ _ HB.out HR.out).mono ?_; rintro e w' ⟨rfl, hrow, hbl⟩; have HFIN := hide (HPO.out A1 c1 qs w' (hrow.low (by omega)) (.inl ⟨rfl, HQ.out⟩) (bl_trans HBX.out (by rw [hsz]; exact hbl))); obtain ⟨os1, n1, rfl⟩ := below_plus (by rw [hsz]; exact hbl : Below ((w.alloc (.cells #[.string x] 9)).alloc (.cells #[.int .i64 0, .int .i64 i, .int .i64 t, .string s, .slice A2 l.length c2] 25)).heap.size ((w.alloc (.cells #[.string x] 9)).alloc (.cells #[.int .i64 0, .int .i64 i, .int .i64 t, .string s, .slice A2 l.length c2] 25)) w'); clear hrow hbl))
    exact HFIN.out
  · have hk0 : (k != 0) = true := by simp [hk]
    obtain ⟨iP, hiP, hzP0, hzP1, hzP2⟩ := info_parts info_prop
    have HIP := hide (And.intro hiP (And.intro hzP0 (And.intro hzP1 hzP2)))
    have HV := hide (LIn_of_at hv)
    have HK := hide hk
    clear hiP hzP0 hzP1 hzP2 hv hk
    go_enter Tryz.func28, Tryz.ntmps28
    go_upto_region 4 with (first | (go_at_call 76; refine HCL.out.mono ?_; rintro e w' ⟨A1, c1, rfl, hrow, hbl⟩; have HR := hide hrow; have HB := hide hbl; clear hrow hbl) | (go_at_call 75; refine (HDL.out _ _ _ HB.out HR.out).mono ?_; rintro e w' ⟨rfl, hrow, hbl⟩; have HR2 := hide hrow; have HB2 := hide (show Below ((w.alloc (.cells #[.string x] 9)).alloc (.cells #[.int .i64 k, .int .i64 i, .int .i64 t, .string s, .slice A2 l.length c2] 25)).heap.size ((w.alloc (.cells #[.string x] 9)).alloc (.cells #[.int .i64 k, .int .i64 i, .int .i64 t, .string s, .slice A2 l.length c2] 25)) w' from by rw [hsz]; exact hbl); have HB3 := hide (bl_trans HBX.out HB2.out); obtain ⟨os1, n1, rfl⟩ := below_plus HB2.out; clear hrow hbl) | (at_builtin; refine wpList_append_m rfl (.tmp 15) (.tmp 19) rfl rfl Tryz.underlying22 HIP.out.1 HIP.out.2.1 HIP.out.2.2.1 (by decide) rfl (by have := HIP.out.2.2.2; omega) (w.heap.size + 2) qs.length 1 (.slice A1 qs.length c1) (flatCP qs) [.string x, .int .i64 k, .int .i64 i, .int .i64 t, .string s, .slice A2 l.length c2] _ rfl (ownK_alloc HR2.out.own _) (by decide) rfl (by intro u hu; simp only [List.mem_cons, List.not_mem_nil, or_false] at hu; rcases hu with rfl | rfl | rfl | rfl | rfl | rfl <;> rfl) rfl (newN_cells (cs := [_, _, _, _, _, _]) (by simp only [World.size_alloc, plus_size])) (by omega) (by have h2 := HB2.out.size; simp only [World.size_alloc] at h2 ⊢; omega) ?_; intro v' w1 hown1 hgr1 hfr1; obtain ⟨A9, c9, rfl, _⟩ := ownK_form hown1; have HN := hide hown1; have HGR := hide hgr1; have HFR := hide hfr1; clear hown1 hgr1 hfr1))
    generalize plus ((w.alloc (.cells #[.string x] 9)).alloc (.cells #[.int .i64 k, .int .i64 i, .int .i64 t, .string s, .slice A2 l.length c2] 25)) os1 n1 = V at *
    have hrow := Row6.push (p := ⟨x, ⟨.mk k i t s l, A2, c2⟩⟩) (HR2.out.below (bl_alloc (Below.refl _ _) (.cells #[.string x, .int .i64 k, .int .i64 i, .int .i64 t, .string s, .slice A2 l.length c2] 53))) HGR.out HFR.out HN.out
      (((HV.out.frame (w' := V) (fun b hb => HB3.out.block b hb)).frame (fun b hb => Below.heap_alloc _ _ b (Nat.lt_of_lt_of_le hb HB3.out.size))).mono (fun b hb => ⟨by have := HB3.out.size; rw [World.size_alloc]; omega, fun e => by
        have h1 := (HR2.out.own.lt b e).1
        omega⟩)) HX.out
    have hbw1 : Below w.heap.size w w1 := (bl_alloc HB3.out _).grown HGR.out (by have h1 := HB3.out.size; simp only [World.size_alloc]; omega) (fun k hk => by have := (HR2.out.own.lt k hk).1; omega)
    have hlen9 : (qs ++ [(⟨x, ⟨.mk k i t s l, A2, c2⟩⟩ : CP)]).length = qs.length + 1 := by rw [List.length_append]; rfl
    have hw9 := withIs_sorted (x := x) (v := .mk k i t s l) (c := ⟨x, ⟨.mk k i t s l, A2, c2⟩⟩) HK.out HQ.out rfl
    generalize qs ++ [(⟨x, ⟨.mk k i t s l, A2, c2⟩⟩ : CP)] = xs at hrow hlen9 hw9
    rw [← hlen9] at hrow
    have hsrt := sortRow_any 78 (Go.Proofs.enters_of Tryz.func78 (by kernel_rfl) rfl) lessB_any (w.heap.size + 2) c9 A9 xs w1 hrow (by omega)
    rw [hlen9] at hsrt
    have hfin : ∀ w2, w1.grownBy w2 (Value.slice A9 (qs.length + 1) c9).ownBlock → Row6 w2 (w.heap.size + 2) (.slice A9 (qs.length + 1) c9) (sortCP xs) → PO (.returned (.slice A9 (qs.length + 1) c9)) w2 := by
      intro w2 hg hr
      have hn := hr.clip.1
      have hr2 := hr
      rw [hn] at hr2 ⊢
      exact HPO.out A9 c9 (sortCP xs) w2 (hr2.low (by omega)) hw9 (hbw1.grown hg hbw1.size (fun k hk => by have := (hrow.own.lt k (by rw [hlen9]; exact hk)).1; omega))
    have HSRT := hide hsrt
    have HFIN := hide hfin
    clear hrow hbw1 hlen9 hw9 hsrt hfin
    go_wp2_with (go_at_call 72; refine HSRT.out.mono ?_; rintro e w' ⟨rfl, hg2, hr2⟩; have HF2 := hide (HFIN.out _ hg2 hr2); clear hg2 hr2)
    exact HF2.out

end Go.Proofs.YtfnooipkghfmoaaGreatDoor
/-
  WALKS: Put and PutOf.
-/
namespace Go.Proofs.YtfnooipkghfmoaaGreatDoor
open Go.RowKit Go.Lib

/-- What is wrong ahead of a change. -/
def preErr (x : ByteArray) (e : Int) (l : List PR) : Int := if propsErr l ≠ 0 then propsErr l else if nameErr x ≠ 0 then 3 else e
def PutIs (x : ByteArray) (v : V) (l r : List PR) (E : Int) : Prop :=
  (preErr x v.err l ≠ 0 ∧ r = [] ∧ E = preErr x v.err l) ∨ (preErr x v.err l = 0 ∧ ∃ r', WithIs x v l r' ∧ ((20 < r'.length ∧ r = [] ∧ E = 4) ∨ (r'.length ≤ 20 ∧ r = r' ∧ E = 0)))
theorem preErr_zero {x : ByteArray} {e : Int} {l : List PR} (h : preErr x e l = 0) : propsErr l = 0 := by
  unfold preErr at h
  by_cases hp : propsErr l = 0
  · exact hp
  · rw [if_pos hp] at h; exact h
theorem PutIs.same {x : ByteArray} {v : V} {l r r' : List PR} {E E' : Int} (h1 : PutIs x v l r E) (h2 : PutIs x v l r' E') : r = r' ∧ E = E' := by
  rcases h1 with ⟨h1, rfl, rfl⟩ | ⟨h1, q, hq, hr⟩
  · rcases h2 with ⟨h2, rfl, rfl⟩ | ⟨h2, _⟩
    · exact ⟨rfl, rfl⟩
    · exact absurd h2 h1
  · rcases h2 with ⟨h2, _⟩ | ⟨_, q', hq', hr'⟩
    · exact absurd h1 h2
    · have := hq.same (named_of (preErr_zero h1)).1 hq'
      subst this
      rcases hr with ⟨a, rfl, rfl⟩ | ⟨a, rfl, rfl⟩ <;> rcases hr' with ⟨b, rfl, rfl⟩ | ⟨b, rfl, rfl⟩
      · exact ⟨rfl, rfl⟩
      · omega
      · omega
      · exact ⟨rfl, rfl⟩
theorem PutIs.big {x : ByteArray} {v : V} {l r : List PR} (h : preErr x v.err l = 0) (hw : WithIs x v l r) (h20 : 20 < r.length) : PutIs x v l [] 4 := .inr ⟨h, r, hw, .inl ⟨h20, rfl, rfl⟩⟩
theorem PutIs.ok {x : ByteArray} {v : V} {l r : List PR} (h : preErr x v.err l = 0) (hw : WithIs x v l r) (h20 : r.length ≤ 20) : PutIs x v l r 0 := .inr ⟨h, r, hw, .inr ⟨h20, rfl, rfl⟩⟩
/-- A list and a number are handed back. -/
def POut (P : List PR → Int → Prop) (w : World) (e : Ending) (w' : World) : Prop :=
  ∃ A c r E, e = .returned (.tuple #[.slice A r.length c, .int .i64 E]) ∧ PsAt w' A r ∧ P r E ∧ Below w.heap.size w w'
theorem psAt_nil (w : World) : PsAt w none [] := ⟨by simp, fun h => absurd h (by simp)⟩

set_option maxHeartbeats 6400000 in
set_option maxRecDepth 100000 in
theorem put_any (A : Option Addr) (c : Nat) (ps : List CP) (x : ByteArray) (v : V) (A2 : Option Addr) (c2 : Nat) (w : World) (hA : PsC w A ps) (hfit : ∀ p ∈ ps, p.q.x.fits) (hx : x.size ≤ maxLen) (hvf : v.fits) (hv : LAt w A2 v.l) (hps : PsAt w A (ps.map CP.pr)) :
    Calls Tryz.prog 7 #[.slice A ps.length c, .string x, v.arg A2 c2] w (POut (PutIs x v (ps.map CP.pr)) w) := by
  obtain ⟨k, i, t, s, l⟩ := v
  have hv : LAt w A2 (V.mk k i t s l).l := hv
  have HCP := hide (fun W (hb : Below w.heap.size w W) => checkProps_any (ps.map CP.pr) A c W (hps.below hb))
  have HCN := hide (fun W (hb : Below w.heap.size w W) => checkName_any x W)
  have HCV := hide (fun W (hb : Below w.heap.size w W) => checkValue_any (.mk k i t s l) A2 c2 W (hv.below hb))
  have hwi := fun (hl20 : ps.length ≤ 20) W (hb : Below w.heap.size w W) => with_any A c ps x (.mk k i t s l) A2 c2 W (hA.below hb) hl20 hfit hx hvf (hv.below hb)
  have HPO : Hid (∀ A c r E w', PsAt w' A r → PutIs x (.mk k i t s l) (ps.map CP.pr) r E → Below w.heap.size w w' → POut (PutIs x (.mk k i t s l) (ps.map CP.pr)) w (.returned (.tuple #[.slice A r.length c, .int .i64 E])) w') :=
    hide fun A c r E w' h1 h2 h3 => ⟨A, c, r, E, rfl, h1, h2, h3⟩
  have HNIL := hide (fun E w' (h : PutIs x (.mk k i t s l) (ps.map CP.pr) [] E) (hb : Below w.heap.size w w') => HPO.out none 0 [] E w' (psAt_nil w') h hb)
  generalize hPO : POut (PutIs x (.mk k i t s l) (ps.map CP.pr)) w = PO at *
  simp only [List.length_nil] at HNIL
  have hE : ∀ e, preErr x e (ps.map CP.pr) = if propsErr (ps.map CP.pr) ≠ 0 then propsErr (ps.map CP.pr) else if nameErr x ≠ 0 then 3 else e := fun _ => rfl
  have hpe := fun h : propsErr (ps.map CP.pr) = 0 => (named_of h).2
  clear hps hA hfit hx hvf hv hPO
  simp only [List.length_map, V.arg, V.k, V.i, V.t, V.s, V.l] at *
  by_cases hp : propsErr (ps.map CP.pr) = 0
  case neg =>
    have hfin : PutIs x (.mk k i t s l) (ps.map CP.pr) [] (propsErr (ps.map CP.pr)) := .inl ⟨by rw [hE, if_pos hp]; exact hp, rfl, by rw [hE, if_pos hp]⟩
    have HFIN := hide (fun w' hb => HNIL.out _ w' hfin hb)
    generalize propsErr (ps.map CP.pr) = P at *
    have hp0 : (P != 0) = true := by simpa using hp
    clear hfin hE hwi hpe hp
    go_enter Tryz.func7, Tryz.ntmps7
    go_wp2_with (first | (go_at_call 21; refine (HCP.out _ ?hbw).mono ?_; (case hbw => exact (by repeat (first | exact Below.refl _ _ | refine bl_plus ?_ | refine bl_alloc ?_ _ | refine bl_drew ?_ | refine bl_drewN ?_ _))); rintro e w' ⟨rfl, hbl⟩; obtain ⟨os1, n1, rfl⟩ := below_plus hbl; clear hbl))
    exact HFIN.out _ (by repeat (first | exact Below.refl _ _ | refine bl_plus ?_ | refine bl_alloc ?_ _ | refine bl_drew ?_ | refine bl_drewN ?_ _))
  case pos =>
    have HWI := hide (hwi (hpe hp))
    unfold RowIs at HWI
    rw [hp] at HCP hE
    clear hpe hwi
    rcases nameErr_cases x with ⟨hn, hn2⟩ | ⟨hn, hn2⟩
    · have hfin : PutIs x (.mk k i t s l) (ps.map CP.pr) [] 3 := .inl ⟨by rw [hE, if_neg (by decide), hn, if_pos (by decide)]; decide, rfl, by rw [hE, if_neg (by decide), hn, if_pos (by decide)]⟩
      have HFIN := hide (fun w' hb => HNIL.out _ w' hfin hb)
      rw [hn] at HCN
      clear hfin hE hn hn2
      go_enter Tryz.func7, Tryz.ntmps7
      go_wp2_with (first | (go_at_call 21; refine (HCP.out _ ?hbw).mono ?_; (case hbw => exact (by repeat (first | exact Below.refl _ _ | refine bl_plus ?_ | refine bl_alloc ?_ _ | refine bl_drew ?_ | refine bl_drewN ?_ _))); rintro e w' ⟨rfl, hbl⟩; obtain ⟨os1, n1, rfl⟩ := below_plus hbl; clear hbl) | (go_at_call 23; refine (HCN.out _ ?hbw).mono ?_; (case hbw => exact (by repeat (first | exact Below.refl _ _ | refine bl_plus ?_ | refine bl_alloc ?_ _ | refine bl_drew ?_ | refine bl_drewN ?_ _))); rintro e w' ⟨rfl, hbl⟩; obtain ⟨os2, n2, rfl⟩ := below_plus hbl; clear hbl))
      exact HFIN.out _ (by repeat (first | exact Below.refl _ _ | refine bl_plus ?_ | refine bl_alloc ?_ _ | refine bl_drew ?_ | refine bl_drewN ?_ _))
    · rw [hn] at HCN
      rw [hn] at hE
      by_cases hve : (V.mk k i t s l).err = 0
      case neg =>
        have hfin : PutIs x (.mk k i t s l) (ps.map CP.pr) [] (V.mk k i t s l).err := .inl ⟨by rw [hE, if_neg (by decide), if_neg (by decide)]; exact hve, rfl, by rw [hE, if_neg (by decide), if_neg (by decide)]⟩
        have HFIN := hide (fun w' hb => HNIL.out _ w' hfin hb)
        generalize (V.mk k i t s l).err = VE at *
        have hp0 : (VE != 0) = true := by simpa using hve
        clear hfin hE hn hn2 hve
        go_enter Tryz.func7, Tryz.ntmps7
        go_wp2_with (first | (go_at_call 21; refine (HCP.out _ ?hbw).mono ?_; (case hbw => exact (by repeat (first | exact Below.refl _ _ | refine bl_plus ?_ | refine bl_alloc ?_ _ | refine bl_drew ?_ | refine bl_drewN ?_ _))); rintro e w' ⟨rfl, hbl⟩; obtain ⟨os1, n1, rfl⟩ := below_plus hbl; clear hbl) | (go_at_call 23; refine (HCN.out _ ?hbw).mono ?_; (case hbw => exact (by repeat (first | exact Below.refl _ _ | refine bl_plus ?_ | refine bl_alloc ?_ _ | refine bl_drew ?_ | refine bl_drewN ?_ _))); rintro e w' ⟨rfl, hbl⟩; obtain ⟨os2, n2, rfl⟩ := below_plus hbl; clear hbl) | (go_at_call 17; refine (HCV.out _ ?hbw).mono ?_; (case hbw => exact (by repeat (first | exact Below.refl _ _ | refine bl_plus ?_ | refine bl_alloc ?_ _ | refine bl_drew ?_ | refine bl_drewN ?_ _))); rintro e w' ⟨rfl, hbl⟩; obtain ⟨os3, n3, rfl⟩ := below_plus hbl; clear hbl))
        exact HFIN.out _ (by repeat (first | exact Below.refl _ _ | refine bl_plus ?_ | refine bl_alloc ?_ _ | refine bl_drew ?_ | refine bl_drewN ?_ _))
      case pos =>
        have hpre : preErr x (V.mk k i t s l).err (ps.map CP.pr) = 0 := by rw [hE, if_neg (by decide), if_neg (by decide)]; exact hve
        have HBIG := hide (fun r (h : WithIs x (.mk k i t s l) (ps.map CP.pr) r) (h20 : 20 < r.length) => PutIs.big hpre h h20)
        have HOK := hide (fun r (h : WithIs x (.mk k i t s l) (ps.map CP.pr) r) (h20 : r.length ≤ 20) => PutIs.ok hpre h h20)
        rw [hve] at HCV
        clear hE hn hn2 hve hpre
        go_enter Tryz.func7, Tryz.ntmps7
        go_upto_region 11 with (first | (go_at_call 21; refine (HCP.out _ ?hbw).mono ?_; (case hbw => exact (by repeat (first | exact Below.refl _ _ | refine bl_plus ?_ | refine bl_alloc ?_ _ | refine bl_drew ?_ | refine bl_drewN ?_ _))); rintro e w' ⟨rfl, hbl⟩; obtain ⟨os1, n1, rfl⟩ := below_plus hbl; clear hbl) | (go_at_call 23; refine (HCN.out _ ?hbw).mono ?_; (case hbw => exact (by repeat (first | exact Below.refl _ _ | refine bl_plus ?_ | refine bl_alloc ?_ _ | refine bl_drew ?_ | refine bl_drewN ?_ _))); rintro e w' ⟨rfl, hbl⟩; obtain ⟨os2, n2, rfl⟩ := below_plus hbl; clear hbl) | (go_at_call 17; refine (HCV.out _ ?hbw).mono ?_; (case hbw => exact (by repeat (first | exact Below.refl _ _ | refine bl_plus ?_ | refine bl_alloc ?_ _ | refine bl_drew ?_ | refine bl_drewN ?_ _))); rintro e w' ⟨rfl, hbl⟩; obtain ⟨os3, n3, rfl⟩ := below_plus hbl; clear hbl) | (go_at_call 27; refine (HWI.out _ ?hbw).mono ?_; (case hbw => exact (by repeat (first | exact Below.refl _ _ | refine bl_plus ?_ | refine bl_alloc ?_ _ | refine bl_drew ?_ | refine bl_drewN ?_ _))); rintro e w' ⟨A1, c1, qs, rfl, hrow, hwi, hbl⟩; have HR := hide hrow; have HWR := hide hwi; have HBR := hide (Below.trans (show Below w.heap.size w _ from (by repeat (first | exact Below.refl _ _ | refine bl_plus ?_ | refine bl_alloc ?_ _ | refine bl_drew ?_ | refine bl_drewN ?_ _))) (hbl.mono (Below.size (show Below w.heap.size w _ from (by repeat (first | exact Below.refl _ _ | refine bl_plus ?_ | refine bl_alloc ?_ _ | refine bl_drew ?_ | refine bl_drewN ?_ _)))))); clear hrow hwi hbl))
        by_cases h20 : 20 < qs.length
        · have i1 : (20 : Int) < (qs.length : Int) := by omega
          have HFIN := hide (HNIL.out 4 w' (HBIG.out _ HWR.out (by rw [List.length_map]; exact h20)) HBR.out)
          clear HR HWR HBR
          go_wp2
          exact HFIN.out
        · have i1 : ¬ (20 : Int) < (qs.length : Int) := by omega
          have hfin := HPO.out A1 c1 (qs.map CP.pr) 0 w' HR.out.psAt.2 (HOK.out _ HWR.out (by rw [List.length_map]; omega)) HBR.out
          rw [List.length_map] at hfin
          have HFIN := hide hfin
          clear HR HWR HBR hfin
          go_wp2
          exact HFIN.out

set_option maxHeartbeats 6400000 in
set_option maxRecDepth 100000 in
theorem putOf_any (A : Option Addr) (c : Nat) (ps : List CP) (x : ByteArray) (v : V) (A2 : Option Addr) (c2 : Nat) (w : World) (hA : PsC w A ps) (hfit : ∀ p ∈ ps, p.q.x.fits) (hx : x.size ≤ maxLen) (hvf : v.fits) (hv : LAt w A2 v.l) (hps : PsAt w A (ps.map CP.pr)) :
    Calls Tryz.prog 8 #[.slice A ps.length c, .string x, v.arg A2 c2] w (POut (PutIs x v (ps.map CP.pr)) w) := by
  obtain ⟨k, i, t, s, l⟩ := v
  have hv : LAt w A2 (V.mk k i t s l).l := hv
  have HCP := hide (fun W (hb : Below w.heap.size w W) => propsFault_any (ps.map CP.pr) A c W (hps.below hb))
  have HCN := hide (fun W (hb : Below w.heap.size w W) => isName_any x W (by have := hx; unfold maxLen at this; omega))
  have HCV := hide (fun W (hb : Below w.heap.size w W) => valueFault_any (.mk k i t s l) A2 c2 W (hv.below hb))
  have hwi := fun (hl20 : ps.length ≤ 20) W (hb : Below w.heap.size w W) => withR_any A c ps x (.mk k i t s l) A2 c2 W (hA.below hb) hl20 hx (hv.below hb)
  have HPO : Hid (∀ A c r E w', PsAt w' A r → PutIs x (.mk k i t s l) (ps.map CP.pr) r E → Below w.heap.size w w' → POut (PutIs x (.mk k i t s l) (ps.map CP.pr)) w (.returned (.tuple #[.slice A r.length c, .int .i64 E])) w') :=
    hide fun A c r E w' h1 h2 h3 => ⟨A, c, r, E, rfl, h1, h2, h3⟩
  have HNIL := hide (fun E w' (h : PutIs x (.mk k i t s l) (ps.map CP.pr) [] E) (hb : Below w.heap.size w w') => HPO.out none 0 [] E w' (psAt_nil w') h hb)
  generalize hPO : POut (PutIs x (.mk k i t s l) (ps.map CP.pr)) w = PO at *
  simp only [List.length_nil] at HNIL
  have hE : ∀ e, preErr x e (ps.map CP.pr) = if propsErr (ps.map CP.pr) ≠ 0 then propsErr (ps.map CP.pr) else if nameErr x ≠ 0 then 3 else e := fun _ => rfl
  have hpe := fun h : propsErr (ps.map CP.pr) = 0 => (named_of h).2
  clear hps hA hfit hx hvf hv hPO
  simp only [List.length_map, V.arg, V.k, V.i, V.t, V.s, V.l] at *
  by_cases hp : propsErr (ps.map CP.pr) = 0
  case neg =>
    have hfin : PutIs x (.mk k i t s l) (ps.map CP.pr) [] (propsErr (ps.map CP.pr)) := .inl ⟨by rw [hE, if_pos hp]; exact hp, rfl, by rw [hE, if_pos hp]⟩
    have HFIN := hide (fun w' hb => HNIL.out _ w' hfin hb)
    generalize propsErr (ps.map CP.pr) = P at *
    have hp0 : (P != 0) = true := by simpa using hp
    clear hfin hE hwi hpe hp
    go_enter Tryz.func8, Tryz.ntmps8
    go_wp2_with (first | (go_at_call 22; refine (HCP.out _ ?hbw).mono ?_; (case hbw => exact (by repeat (first | exact Below.refl _ _ | refine bl_plus ?_ | refine bl_alloc ?_ _ | refine bl_drew ?_ | refine bl_drewN ?_ _))); rintro e w' ⟨rfl, hbl⟩; obtain ⟨os1, n1, rfl⟩ := below_plus hbl; clear hbl))
    exact HFIN.out _ (by repeat (first | exact Below.refl _ _ | refine bl_plus ?_ | refine bl_alloc ?_ _ | refine bl_drew ?_ | refine bl_drewN ?_ _))
  case pos =>
    have HWI := hide (hwi (hpe hp))
    unfold RowIs at HWI
    rw [hp] at HCP hE
    clear hpe hwi
    rcases nameErr_cases x with ⟨hn, hn2⟩ | ⟨hn, hn2⟩
    · have hfin : PutIs x (.mk k i t s l) (ps.map CP.pr) [] 3 := .inl ⟨by rw [hE, if_neg (by decide), hn, if_pos (by decide)]; decide, rfl, by rw [hE, if_neg (by decide), hn, if_pos (by decide)]⟩
      have HFIN := hide (fun w' hb => HNIL.out _ w' hfin hb)
      rw [hn2] at HCN
      clear hfin hE hn hn2
      go_enter Tryz.func8, Tryz.ntmps8
      go_wp2_with (first | (go_at_call 22; refine (HCP.out _ ?hbw).mono ?_; (case hbw => exact (by repeat (first | exact Below.refl _ _ | refine bl_plus ?_ | refine bl_alloc ?_ _ | refine bl_drew ?_ | refine bl_drewN ?_ _))); rintro e w' ⟨rfl, hbl⟩; obtain ⟨os1, n1, rfl⟩ := below_plus hbl; clear hbl) | (go_at_call 20; refine (HCN.out _ ?hbw).mono ?_; (case hbw => exact (by repeat (first | exact Below.refl _ _ | refine bl_plus ?_ | refine bl_alloc ?_ _ | refine bl_drew ?_ | refine bl_drewN ?_ _))); rintro e w' ⟨rfl, hbl⟩; obtain ⟨os2, n2, rfl⟩ := below_plus hbl; clear hbl))
      exact HFIN.out _ (by repeat (first | exact Below.refl _ _ | refine bl_plus ?_ | refine bl_alloc ?_ _ | refine bl_drew ?_ | refine bl_drewN ?_ _))
    · rw [hn2] at HCN
      rw [hn] at hE
      by_cases hve : (V.mk k i t s l).err = 0
      case neg =>
        have hfin : PutIs x (.mk k i t s l) (ps.map CP.pr) [] (V.mk k i t s l).err := .inl ⟨by rw [hE, if_neg (by decide), if_neg (by decide)]; exact hve, rfl, by rw [hE, if_neg (by decide), if_neg (by decide)]⟩
        have HFIN := hide (fun w' hb => HNIL.out _ w' hfin hb)
        generalize (V.mk k i t s l).err = VE at *
        have hp0 : (VE != 0) = true := by simpa using hve
        clear hfin hE hn hn2 hve
        go_enter Tryz.func8, Tryz.ntmps8
        go_wp2_with (first | (go_at_call 22; refine (HCP.out _ ?hbw).mono ?_; (case hbw => exact (by repeat (first | exact Below.refl _ _ | refine bl_plus ?_ | refine bl_alloc ?_ _ | refine bl_drew ?_ | refine bl_drewN ?_ _))); rintro e w' ⟨rfl, hbl⟩; obtain ⟨os1, n1, rfl⟩ := below_plus hbl; clear hbl) | (go_at_call 20; refine (HCN.out _ ?hbw).mono ?_; (case hbw => exact (by repeat (first | exact Below.refl _ _ | refine bl_plus ?_ | refine bl_alloc ?_ _ | refine bl_drew ?_ | refine bl_drewN ?_ _))); rintro e w' ⟨rfl, hbl⟩; obtain ⟨os2, n2, rfl⟩ := below_plus hbl; clear hbl) | (go_at_call 14; refine (HCV.out _ ?hbw).mono ?_; (case hbw => exact (by repeat (first | exact Below.refl _ _ | refine bl_plus ?_ | refine bl_alloc ?_ _ | refine bl_drew ?_ | refine bl_drewN ?_ _))); rintro e w' ⟨rfl, hbl⟩; obtain ⟨os3, n3, rfl⟩ := below_plus hbl; clear hbl))
        exact HFIN.out _ (by repeat (first | exact Below.refl _ _ | refine bl_plus ?_ | refine bl_alloc ?_ _ | refine bl_drew ?_ | refine bl_drewN ?_ _))
      case pos =>
        have hpre : preErr x (V.mk k i t s l).err (ps.map CP.pr) = 0 := by rw [hE, if_neg (by decide), if_neg (by decide)]; exact hve
        have HBIG := hide (fun r (h : WithIs x (.mk k i t s l) (ps.map CP.pr) r) (h20 : 20 < r.length) => PutIs.big hpre h h20)
        have HOK := hide (fun r (h : WithIs x (.mk k i t s l) (ps.map CP.pr) r) (h20 : r.length ≤ 20) => PutIs.ok hpre h h20)
        rw [hve] at HCV
        clear hE hn hn2 hve hpre
        go_enter Tryz.func8, Tryz.ntmps8
        go_upto_region 10 with (first | (go_at_call 22; refine (HCP.out _ ?hbw).mono ?_; (case hbw => exact (by repeat (first | exact Below.refl _ _ | refine bl_plus ?_ | refine bl_alloc ?_ _ | refine bl_drew ?_ | refine bl_drewN ?_ _))); rintro e w' ⟨rfl, hbl⟩; obtain ⟨os1, n1, rfl⟩ := below_plus hbl; clear hbl) | (go_at_call 20; refine (HCN.out _ ?hbw).mono ?_; (case hbw => exact (by repeat (first | exact Below.refl _ _ | refine bl_plus ?_ | refine bl_alloc ?_ _ | refine bl_drew ?_ | refine bl_drewN ?_ _))); rintro e w' ⟨rfl, hbl⟩; obtain ⟨os2, n2, rfl⟩ := below_plus hbl; clear hbl) | (go_at_call 14; refine (HCV.out _ ?hbw).mono ?_; (case hbw => exact (by repeat (first | exact Below.refl _ _ | refine bl_plus ?_ | refine bl_alloc ?_ _ | refine bl_drew ?_ | refine bl_drewN ?_ _))); rintro e w' ⟨rfl, hbl⟩; obtain ⟨os3, n3, rfl⟩ := below_plus hbl; clear hbl) | (go_at_call 28; refine (HWI.out _ ?hbw).mono ?_; (case hbw => exact (by repeat (first | exact Below.refl _ _ | refine bl_plus ?_ | refine bl_alloc ?_ _ | refine bl_drew ?_ | refine bl_drewN ?_ _))); rintro e w' ⟨A1, c1, qs, rfl, hrow, hwi, hbl⟩; have HR := hide hrow; have HWR := hide hwi; have HBR := hide (Below.trans (show Below w.heap.size w _ from (by repeat (first | exact Below.refl _ _ | refine bl_plus ?_ | refine bl_alloc ?_ _ | refine bl_drew ?_ | refine bl_drewN ?_ _))) (hbl.mono (Below.size (show Below w.heap.size w _ from (by repeat (first | exact Below.refl _ _ | refine bl_plus ?_ | refine bl_alloc ?_ _ | refine bl_drew ?_ | refine bl_drewN ?_ _)))))); clear hrow hwi hbl))
        by_cases h20 : 20 < qs.length
        · have i1 : (20 : Int) < (qs.length : Int) := by omega
          have HFIN := hide (HNIL.out 4 w' (HBIG.out _ HWR.out (by rw [List.length_map]; exact h20)) HBR.out)
          clear HR HWR HBR
          go_wp2
          exact HFIN.out
        · have i1 : ¬ (20 : Int) < (qs.length : Int) := by omega
          have hfin := HPO.out A1 c1 (qs.map CP.pr) 0 w' HR.out.psAt.2 (HOK.out _ HWR.out (by rw [List.length_map]; omega)) HBR.out
          rw [List.length_map] at hfin
          have HFIN := hide hfin
          clear HR HWR HBR hfin
          go_wp2
          exact HFIN.out

end Go.Proofs.YtfnooipkghfmoaaGreatDoor
/-
  WALKS: Drop and DropOf.
-/
namespace Go.Proofs.YtfnooipkghfmoaaGreatDoor
open Go.RowKit Go.Lib

def DropIs (x : ByteArray) (l r : List PR) (E : Int) : Prop :=
  (preErr x 0 l ≠ 0 ∧ r = [] ∧ E = preErr x 0 l) ∨ (preErr x 0 l = 0 ∧ ((firstIdx (prIs l x) l.length = none ∧ r = [] ∧ E = 7) ∨ (firstIdx (prIs l x) l.length ≠ none ∧ r = othersR x l ∧ E = 0)))
theorem DropIs.same {x : ByteArray} {l r r' : List PR} {E E' : Int} (h1 : DropIs x l r E) (h2 : DropIs x l r' E') : r = r' ∧ E = E' := by
  rcases h1 with ⟨h1, rfl, rfl⟩ | ⟨h1, ⟨a, rfl, rfl⟩ | ⟨a, rfl, rfl⟩⟩ <;> rcases h2 with ⟨h2, rfl, rfl⟩ | ⟨h2, ⟨b, rfl, rfl⟩ | ⟨b, rfl, rfl⟩⟩
  all_goals first | exact ⟨rfl, rfl⟩ | exact absurd h1 h2 | exact absurd h2 h1 | exact absurd a b | exact absurd b a
theorem lAt_nil (w : World) : LAt w none [] := ⟨by simp, fun h => absurd h (by simp)⟩
theorem withIs_zero {x : ByteArray} {l r : List PR} (h : WithIs x (.mk 0 0 0 ⟨#[]⟩ []) l r) : r = othersR x l := by
  rcases h with ⟨_, h⟩ | ⟨h, _⟩
  · exact h
  · exact absurd rfl h

set_option maxHeartbeats 6400000 in
set_option maxRecDepth 100000 in
theorem drop_any (A : Option Addr) (c : Nat) (ps : List CP) (x : ByteArray) (w : World) (hA : PsC w A ps) (hfit : ∀ p ∈ ps, p.q.x.fits) (hps : PsAt w A (ps.map CP.pr)) :
    Calls Tryz.prog 9 #[.slice A ps.length c, .string x] w (POut (DropIs x (ps.map CP.pr)) w) := by
  have HCP := hide (fun W (hb : Below w.heap.size w W) => checkProps_any (ps.map CP.pr) A c W (hps.below hb))
  have HCN := hide (fun W (hb : Below w.heap.size w W) => checkName_any x W)
  have HFD := hide (fun W (hb : Below w.heap.size w W) => find_any A c (ps.map CP.pr) x W (hps.below hb))
  have hwi := fun (hl20 : ps.length ≤ 20) W (hb : Below w.heap.size w W) => without_any A c ps x W (hA.below hb) hl20 hfit
  have HPO : Hid (∀ A c r E w', PsAt w' A r → DropIs x (ps.map CP.pr) r E → Below w.heap.size w w' → POut (DropIs x (ps.map CP.pr)) w (.returned (.tuple #[.slice A r.length c, .int .i64 E])) w') :=
    hide fun A c r E w' h1 h2 h3 => ⟨A, c, r, E, rfl, h1, h2, h3⟩
  have HNIL := hide (fun E w' (h : DropIs x (ps.map CP.pr) [] E) (hb : Below w.heap.size w w') => HPO.out none 0 [] E w' (psAt_nil w') h hb)
  generalize hPO : POut (DropIs x (ps.map CP.pr)) w = PO at *
  simp only [List.length_nil] at HNIL
  have hE : preErr x 0 (ps.map CP.pr) = if propsErr (ps.map CP.pr) ≠ 0 then propsErr (ps.map CP.pr) else if nameErr x ≠ 0 then 3 else 0 := rfl
  have hpe := fun h : propsErr (ps.map CP.pr) = 0 => (named_of h).2
  clear hPO hA hps hfit
  simp only [List.length_map] at HCP HFD hpe
  by_cases hp : propsErr (ps.map CP.pr) = 0
  case neg =>
    have hfin : DropIs x (ps.map CP.pr) [] (propsErr (ps.map CP.pr)) := .inl ⟨by rw [hE, if_pos hp]; exact hp, rfl, by rw [hE, if_pos hp]⟩
    have HFIN := hide (fun w' hb => HNIL.out _ w' hfin hb)
    generalize propsErr (ps.map CP.pr) = P at *
    have hp0 : (P != 0) = true := by simpa using hp
    clear hfin hE hwi hpe hp
    go_enter Tryz.func9, Tryz.ntmps9
    go_wp2_with (first | (go_at_call 21; refine (HCP.out _ ?hbw).mono ?_; (case hbw => exact (by repeat (first | exact Below.refl _ _ | refine bl_plus ?_ | refine bl_alloc ?_ _ | refine bl_drew ?_ | refine bl_drewN ?_ _))); rintro e w' ⟨rfl, hbl⟩; obtain ⟨os1, n1, rfl⟩ := below_plus hbl; clear hbl))
    exact HFIN.out _ (by repeat (first | exact Below.refl _ _ | refine bl_plus ?_ | refine bl_alloc ?_ _ | refine bl_drew ?_ | refine bl_drewN ?_ _))
  case pos =>
    have HWI := hide (hwi (hpe hp))
    unfold RowIs at HWI
    rw [hp] at HCP hE
    clear hpe hwi
    rcases nameErr_cases x with ⟨hn, hn2⟩ | ⟨hn, hn2⟩
    · have hfin : DropIs x (ps.map CP.pr) [] 3 := .inl ⟨by rw [hE, if_neg (by decide), hn, if_pos (by decide)]; decide, rfl, by rw [hE, if_neg (by decide), hn, if_pos (by decide)]⟩
      have HFIN := hide (fun w' hb => HNIL.out _ w' hfin hb)
      rw [hn] at HCN
      clear hfin hE hn hn2
      go_enter Tryz.func9, Tryz.ntmps9
      go_wp2_with (first | (go_at_call 21; refine (HCP.out _ ?hbw).mono ?_; (case hbw => exact (by repeat (first | exact Below.refl _ _ | refine bl_plus ?_ | refine bl_alloc ?_ _ | refine bl_drew ?_ | refine bl_drewN ?_ _))); rintro e w' ⟨rfl, hbl⟩; obtain ⟨os1, n1, rfl⟩ := below_plus hbl; clear hbl) | (go_at_call 23; refine (HCN.out _ ?hbw).mono ?_; (case hbw => exact (by repeat (first | exact Below.refl _ _ | refine bl_plus ?_ | refine bl_alloc ?_ _ | refine bl_drew ?_ | refine bl_drewN ?_ _))); rintro e w' ⟨rfl, hbl⟩; obtain ⟨os2, n2, rfl⟩ := below_plus hbl; clear hbl))
      exact HFIN.out _ (by repeat (first | exact Below.refl _ _ | refine bl_plus ?_ | refine bl_alloc ?_ _ | refine bl_drew ?_ | refine bl_drewN ?_ _))
    · rw [hn] at HCN
      rw [hn, if_neg (by decide), if_neg (by decide)] at hE
      cases hR : firstIdx (prIs (ps.map CP.pr) x) ps.length with
      | none =>
        have hfin : DropIs x (ps.map CP.pr) [] 7 := .inr ⟨hE, .inl ⟨(by rw [List.length_map]; exact hR), rfl, rfl⟩⟩
        have HFIN := hide (fun w' hb => HNIL.out _ w' hfin hb)
        rw [hR] at HFD
        simp only [idxInt] at HFD
        clear hfin hE hn hn2 hR
        go_enter Tryz.func9, Tryz.ntmps9
        go_wp2_with (first | (go_at_call 21; refine (HCP.out _ ?hbw).mono ?_; (case hbw => exact (by repeat (first | exact Below.refl _ _ | refine bl_plus ?_ | refine bl_alloc ?_ _ | refine bl_drew ?_ | refine bl_drewN ?_ _))); rintro e w' ⟨rfl, hbl⟩; obtain ⟨os1, n1, rfl⟩ := below_plus hbl; clear hbl) | (go_at_call 23; refine (HCN.out _ ?hbw).mono ?_; (case hbw => exact (by repeat (first | exact Below.refl _ _ | refine bl_plus ?_ | refine bl_alloc ?_ _ | refine bl_drew ?_ | refine bl_drewN ?_ _))); rintro e w' ⟨rfl, hbl⟩; obtain ⟨os2, n2, rfl⟩ := below_plus hbl; clear hbl) | (go_at_call 29; refine (HFD.out _ ?hbw).mono ?_; (case hbw => exact (by repeat (first | exact Below.refl _ _ | refine bl_plus ?_ | refine bl_alloc ?_ _ | refine bl_drew ?_ | refine bl_drewN ?_ _))); rintro e w' ⟨rfl, hbl⟩; obtain ⟨os3, n3, rfl⟩ := below_plus hbl; clear hbl))
        exact HFIN.out _ (by repeat (first | exact Below.refl _ _ | refine bl_plus ?_ | refine bl_alloc ?_ _ | refine bl_drew ?_ | refine bl_drewN ?_ _))
      | some q =>
        have HOK := hide (fun r (h : r = othersR x (ps.map CP.pr)) => (show DropIs x (ps.map CP.pr) r 0 from .inr ⟨hE, .inr ⟨by rw [List.length_map, hR]; simp, h, rfl⟩⟩))
        rw [hR] at HFD
        simp only [idxInt] at HFD
        have i1 : ¬ ((q : Int) < 0) := by omega
        clear hE hn hn2 hR
        go_enter Tryz.func9, Tryz.ntmps9
        go_wp2_with (first | (go_at_call 21; refine (HCP.out _ ?hbw).mono ?_; (case hbw => exact (by repeat (first | exact Below.refl _ _ | refine bl_plus ?_ | refine bl_alloc ?_ _ | refine bl_drew ?_ | refine bl_drewN ?_ _))); rintro e w' ⟨rfl, hbl⟩; obtain ⟨os1, n1, rfl⟩ := below_plus hbl; clear hbl) | (go_at_call 23; refine (HCN.out _ ?hbw).mono ?_; (case hbw => exact (by repeat (first | exact Below.refl _ _ | refine bl_plus ?_ | refine bl_alloc ?_ _ | refine bl_drew ?_ | refine bl_drewN ?_ _))); rintro e w' ⟨rfl, hbl⟩; obtain ⟨os2, n2, rfl⟩ := below_plus hbl; clear hbl) | (go_at_call 29; refine (HFD.out _ ?hbw).mono ?_; (case hbw => exact (by repeat (first | exact Below.refl _ _ | refine bl_plus ?_ | refine bl_alloc ?_ _ | refine bl_drew ?_ | refine bl_drewN ?_ _))); rintro e w' ⟨rfl, hbl⟩; obtain ⟨os3, n3, rfl⟩ := below_plus hbl; clear hbl) | (go_at_call 31; refine (HWI.out _ ?hbw).mono ?_; (case hbw => exact (by repeat (first | exact Below.refl _ _ | refine bl_plus ?_ | refine bl_alloc ?_ _ | refine bl_drew ?_ | refine bl_drewN ?_ _))); rintro e w' ⟨A1, c1, qs, rfl, hrow, hwi, hbl⟩; have HR := hide hrow; have HWR := hide hwi; have HBR := hide (Below.trans (show Below w.heap.size w _ from (by repeat (first | exact Below.refl _ _ | refine bl_plus ?_ | refine bl_alloc ?_ _ | refine bl_drew ?_ | refine bl_drewN ?_ _))) (hbl.mono (Below.size (show Below w.heap.size w _ from (by repeat (first | exact Below.refl _ _ | refine bl_plus ?_ | refine bl_alloc ?_ _ | refine bl_drew ?_ | refine bl_drewN ?_ _)))))); clear hrow hwi hbl) | (go_at_call 30; have hcl := HR.out.clip; refine (clipP_any A1 qs.length c1 _ hcl.2.2.1 hcl.2.2.2.1 hcl.2.2.2.2.1 hcl.2.2.2.2.2).mono ?_; rintro e w' ⟨rfl, rfl⟩; have HRC := hide hcl.2.1; clear hcl))
        have hfin := HPO.out A1 qs.length (qs.map CP.pr) 0 _ HRC.out.psAt.2 (HOK.out _ HWR.out) HBR.out
        rw [List.length_map] at hfin
        exact hfin

set_option maxHeartbeats 6400000 in
set_option maxRecDepth 100000 in
theorem dropOf_any (A : Option Addr) (c : Nat) (ps : List CP) (x : ByteArray) (w : World) (hA : PsC w A ps) (hx : x.size ≤ maxLen) (hps : PsAt w A (ps.map CP.pr)) :
    Calls Tryz.prog 10 #[.slice A ps.length c, .string x] w (POut (DropIs x (ps.map CP.pr)) w) := by
  have HCP := hide (fun W (hb : Below w.heap.size w W) => propsFault_any (ps.map CP.pr) A c W (hps.below hb))
  have HCN := hide (fun W (hb : Below w.heap.size w W) => isName_any x W (by have := hx; unfold maxLen at this; omega))
  have HFD := hide (fun W (hb : Below w.heap.size w W) => getOf_any A c (ps.map CP.pr) x W (hps.below hb))
  have hwi := fun (hl20 : ps.length ≤ 20) W (hb : Below w.heap.size w W) => withR_any A c ps x (.mk 0 0 0 ⟨#[]⟩ []) none 0 W (hA.below hb) hl20 hx (lAt_nil W)
  have HPO : Hid (∀ A c r E w', PsAt w' A r → DropIs x (ps.map CP.pr) r E → Below w.heap.size w w' → POut (DropIs x (ps.map CP.pr)) w (.returned (.tuple #[.slice A r.length c, .int .i64 E])) w') :=
    hide fun A c r E w' h1 h2 h3 => ⟨A, c, r, E, rfl, h1, h2, h3⟩
  have HNIL := hide (fun E w' (h : DropIs x (ps.map CP.pr) [] E) (hb : Below w.heap.size w w') => HPO.out none 0 [] E w' (psAt_nil w') h hb)
  generalize hPO : POut (DropIs x (ps.map CP.pr)) w = PO at *
  simp only [List.length_nil] at HNIL
  have hE : preErr x 0 (ps.map CP.pr) = if propsErr (ps.map CP.pr) ≠ 0 then propsErr (ps.map CP.pr) else if nameErr x ≠ 0 then 3 else 0 := rfl
  have hpe := fun h : propsErr (ps.map CP.pr) = 0 => (named_of h).2
  clear hPO hA hps hx
  simp only [List.length_map] at HCP HFD hpe
  by_cases hp : propsErr (ps.map CP.pr) = 0
  case neg =>
    have hfin : DropIs x (ps.map CP.pr) [] (propsErr (ps.map CP.pr)) := .inl ⟨by rw [hE, if_pos hp]; exact hp, rfl, by rw [hE, if_pos hp]⟩
    have HFIN := hide (fun w' hb => HNIL.out _ w' hfin hb)
    generalize propsErr (ps.map CP.pr) = P at *
    have hp0 : (P != 0) = true := by simpa using hp
    clear hfin hE hwi hpe hp
    go_enter Tryz.func10, Tryz.ntmps10
    go_wp2_with (first | (go_at_call 22; refine (HCP.out _ ?hbw).mono ?_; (case hbw => exact (by repeat (first | exact Below.refl _ _ | refine bl_plus ?_ | refine bl_alloc ?_ _ | refine bl_drew ?_ | refine bl_drewN ?_ _))); rintro e w' ⟨rfl, hbl⟩; obtain ⟨os1, n1, rfl⟩ := below_plus hbl; clear hbl))
    exact HFIN.out _ (by repeat (first | exact Below.refl _ _ | refine bl_plus ?_ | refine bl_alloc ?_ _ | refine bl_drew ?_ | refine bl_drewN ?_ _))
  case pos =>
    have HWI := hide (hwi (hpe hp))
    unfold RowIs at HWI
    rw [hp] at HCP hE
    clear hpe hwi
    rcases nameErr_cases x with ⟨hn, hn2⟩ | ⟨hn, hn2⟩
    · have hfin : DropIs x (ps.map CP.pr) [] 3 := .inl ⟨by rw [hE, if_neg (by decide), hn, if_pos (by decide)]; decide, rfl, by rw [hE, if_neg (by decide), hn, if_pos (by decide)]⟩
      have HFIN := hide (fun w' hb => HNIL.out _ w' hfin hb)
      rw [hn2] at HCN
      clear hfin hE hn hn2
      go_enter Tryz.func10, Tryz.ntmps10
      go_wp2_with (first | (go_at_call 22; refine (HCP.out _ ?hbw).mono ?_; (case hbw => exact (by repeat (first | exact Below.refl _ _ | refine bl_plus ?_ | refine bl_alloc ?_ _ | refine bl_drew ?_ | refine bl_drewN ?_ _))); rintro e w' ⟨rfl, hbl⟩; obtain ⟨os1, n1, rfl⟩ := below_plus hbl; clear hbl) | (go_at_call 20; refine (HCN.out _ ?hbw).mono ?_; (case hbw => exact (by repeat (first | exact Below.refl _ _ | refine bl_plus ?_ | refine bl_alloc ?_ _ | refine bl_drew ?_ | refine bl_drewN ?_ _))); rintro e w' ⟨rfl, hbl⟩; obtain ⟨os2, n2, rfl⟩ := below_plus hbl; clear hbl))
      exact HFIN.out _ (by repeat (first | exact Below.refl _ _ | refine bl_plus ?_ | refine bl_alloc ?_ _ | refine bl_drew ?_ | refine bl_drewN ?_ _))
    · rw [hn2] at HCN
      rw [hn, if_neg (by decide), if_neg (by decide)] at hE
      cases hR : firstIdx (prIs (ps.map CP.pr) x) ps.length with
      | none =>
        have hfin : DropIs x (ps.map CP.pr) [] 7 := .inr ⟨hE, .inl ⟨(by rw [List.length_map]; exact hR), rfl, rfl⟩⟩
        have HFIN := hide (fun w' hb => HNIL.out _ w' hfin hb)
        have HGD := hide (fun W (hb : Below w.heap.size w W) => (by
          refine (HFD.out W hb).mono ?_
          rintro e w' ⟨hbl, ⟨q, _, _, _, h, _⟩ | ⟨_, rfl⟩⟩
          · rw [List.length_map, hR] at h; cases h
          · exact ⟨rfl, hbl⟩ : Calls Tryz.prog 12 #[.slice A ps.length c, .string x] W fun e w' => e = .returned (.tuple #[.agg #[.int .i64 0, .int .i64 0, .int .i64 0, .string ⟨#[]⟩, .slice none 0 0], .bool false]) ∧ Below W.heap.size W w'))
        clear hfin hE hn hn2 hR HFD
        go_enter Tryz.func10, Tryz.ntmps10
        go_wp2_with (first | (go_at_call 22; refine (HCP.out _ ?hbw).mono ?_; (case hbw => exact (by repeat (first | exact Below.refl _ _ | refine bl_plus ?_ | refine bl_alloc ?_ _ | refine bl_drew ?_ | refine bl_drewN ?_ _))); rintro e w' ⟨rfl, hbl⟩; obtain ⟨os1, n1, rfl⟩ := below_plus hbl; clear hbl) | (go_at_call 20; refine (HCN.out _ ?hbw).mono ?_; (case hbw => exact (by repeat (first | exact Below.refl _ _ | refine bl_plus ?_ | refine bl_alloc ?_ _ | refine bl_drew ?_ | refine bl_drewN ?_ _))); rintro e w' ⟨rfl, hbl⟩; obtain ⟨os2, n2, rfl⟩ := below_plus hbl; clear hbl) | (go_at_call 12; refine (HGD.out _ ?hbw).mono ?_; (case hbw => exact (by repeat (first | exact Below.refl _ _ | refine bl_plus ?_ | refine bl_alloc ?_ _ | refine bl_drew ?_ | refine bl_drewN ?_ _))); rintro e w' ⟨rfl, hbl⟩; obtain ⟨os3, n3, rfl⟩ := below_plus hbl; clear hbl))
        exact HFIN.out _ (by repeat (first | exact Below.refl _ _ | refine bl_plus ?_ | refine bl_alloc ?_ _ | refine bl_drew ?_ | refine bl_drewN ?_ _))
      | some q =>
        have HOK := hide (fun r (h : r = othersR x (ps.map CP.pr)) => (show DropIs x (ps.map CP.pr) r 0 from .inr ⟨hE, .inr ⟨by rw [List.length_map, hR]; simp, h, rfl⟩⟩))
        have HGD := hide (fun W (hb : Below w.heap.size w W) => (by
          refine (HFD.out W hb).mono ?_
          rintro e w' ⟨hbl, ⟨q', hq', A2, c2, h, rfl, _⟩ | ⟨h, rfl⟩⟩
          · generalize (ps.map CP.pr)[q'].v = v
            obtain ⟨k, i, t, s, l⟩ := v
            exact ⟨k, i, t, s, A2, l.length, c2, rfl, hbl⟩
          · rw [List.length_map, hR] at h; exact nomatch h : Calls Tryz.prog 12 #[.slice A ps.length c, .string x] W fun e w' => ∃ k i t s A2 n2 c2, e = .returned (.tuple #[.agg #[.int .i64 k, .int .i64 i, .int .i64 t, .string s, .slice A2 n2 c2], .bool true]) ∧ Below W.heap.size W w'))
        clear hE hn hn2 hR HFD
        simp only [V.arg, V.k, V.i, V.t, V.s, V.l, List.length_nil] at HWI
        go_enter Tryz.func10, Tryz.ntmps10
        go_wp2_with (first | (go_at_call 22; refine (HCP.out _ ?hbw).mono ?_; (case hbw => exact (by repeat (first | exact Below.refl _ _ | refine bl_plus ?_ | refine bl_alloc ?_ _ | refine bl_drew ?_ | refine bl_drewN ?_ _))); rintro e w' ⟨rfl, hbl⟩; obtain ⟨os1, n1, rfl⟩ := below_plus hbl; clear hbl) | (go_at_call 20; refine (HCN.out _ ?hbw).mono ?_; (case hbw => exact (by repeat (first | exact Below.refl _ _ | refine bl_plus ?_ | refine bl_alloc ?_ _ | refine bl_drew ?_ | refine bl_drewN ?_ _))); rintro e w' ⟨rfl, hbl⟩; obtain ⟨os2, n2, rfl⟩ := below_plus hbl; clear hbl) | (go_at_call 12; refine (HGD.out _ ?hbw).mono ?_; (case hbw => exact (by repeat (first | exact Below.refl _ _ | refine bl_plus ?_ | refine bl_alloc ?_ _ | refine bl_drew ?_ | refine bl_drewN ?_ _))); rintro e w' ⟨k3, i3, t3, s3, A3, m3, c3, rfl, hbl⟩; obtain ⟨os3, n3, rfl⟩ := below_plus hbl; clear hbl) | (go_at_call 28; refine (HWI.out _ ?hbw).mono ?_; (case hbw => exact (by repeat (first | exact Below.refl _ _ | refine bl_plus ?_ | refine bl_alloc ?_ _ | refine bl_drew ?_ | refine bl_drewN ?_ _))); rintro e w' ⟨A1, c1, qs, rfl, hrow, hwi, hbl⟩; have HR := hide hrow; have HWR := hide hwi; have HBR := hide (Below.trans (show Below w.heap.size w _ from (by repeat (first | exact Below.refl _ _ | refine bl_plus ?_ | refine bl_alloc ?_ _ | refine bl_drew ?_ | refine bl_drewN ?_ _))) (hbl.mono (Below.size (show Below w.heap.size w _ from (by repeat (first | exact Below.refl _ _ | refine bl_plus ?_ | refine bl_alloc ?_ _ | refine bl_drew ?_ | refine bl_drewN ?_ _)))))); clear hrow hwi hbl))
        have hfin := HPO.out A1 c1 (qs.map CP.pr) 0 _ HR.out.psAt.2 (HOK.out _ (withIs_zero HWR.out)) HBR.out
        rw [List.length_map] at hfin
        exact hfin

end Go.Proofs.YtfnooipkghfmoaaGreatDoor
/-
  WALK: Get.
-/
namespace Go.Proofs.YtfnooipkghfmoaaGreatDoor
open Go.RowKit Go.Lib

def GetIs (l : List PR) (x : ByteArray) (v : V) (b : Bool) : Prop :=
  (firstIdx (prIs l x) l.length = none ∧ v = .mk 0 0 0 ⟨#[]⟩ [] ∧ b = false) ∨ ∃ k, ∃ h : k < l.length, firstIdx (prIs l x) l.length = some k ∧ v = l[k].v ∧ b = true
theorem GetIs.same {l : List PR} {x : ByteArray} {v v' : V} {b b' : Bool} (h1 : GetIs l x v b) (h2 : GetIs l x v' b') : v = v' ∧ b = b' := by
  rcases h1 with ⟨h1, rfl, rfl⟩ | ⟨k, hk, h1, rfl, rfl⟩ <;> rcases h2 with ⟨h2, rfl, rfl⟩ | ⟨k', hk', h2, rfl, rfl⟩
  · exact ⟨rfl, rfl⟩
  · rw [h1] at h2; cases h2
  · rw [h1] at h2; cases h2
  · rw [h1] at h2
    obtain rfl := Option.some.inj h2
    exact ⟨rfl, rfl⟩
theorem plus_heap_swapP {B B' : World} {O : Array Obj} {n n' g : Nat} (hs : B.heap.size = B'.heap.size) (hg : B.heap.size ≤ g) : (plus B O n).heap[g]? = (plus B' O n').heap[g]? := by
  unfold plus
  simp only [Array.getElem?_append]
  rw [if_neg (by omega), if_neg (by omega), hs]
/-- A value and a word are handed back. -/
def GOut (l : List PR) (x : ByteArray) (w : World) (e : Ending) (w' : World) : Prop :=
  ∃ v A c b, e = .returned (.tuple #[v.arg A c, .bool b]) ∧ LAt w' A v.l ∧ GetIs l x v b ∧ Below w.heap.size w w'

theorem getR_any (A : Option Addr) (c : Nat) (l : List PR) (x : ByteArray) (w : World) (hA : PsAt w A l) :
    Calls Tryz.prog 12 #[.slice A l.length c, .string x] w (GOut l x w) := by
  refine (getOf_any A c l x w hA).mono ?_
  rintro e w' ⟨hb, ⟨k, hk, A2, c2, h, rfl, hL⟩ | ⟨h, rfl⟩⟩
  · exact ⟨l[k].v, A2, c2, true, rfl, hL.below hb, .inr ⟨k, hk, h, rfl, rfl⟩, hb⟩
  · exact ⟨.mk 0 0 0 ⟨#[]⟩ [], none, 0, false, rfl, lAt_nil w', .inl ⟨h, rfl, rfl⟩, hb⟩

set_option maxHeartbeats 6400000 in
set_option maxRecDepth 100000 in
theorem get_any (A : Option Addr) (c : Nat) (ps : List CP) (x : ByteArray) (w : World) (hA : PsC w A ps) (hfit : ∀ p ∈ ps, p.q.x.fits) (hps : PsAt w A (ps.map CP.pr)) :
    Calls Tryz.prog 11 #[.slice A ps.length c, .string x] w (GOut (ps.map CP.pr) x w) := by
  have HFD := hide (fun W (hb : Below w.heap.size w W) => find_any A c (ps.map CP.pr) x W (hps.below hb))
  simp only [List.length_map] at HFD
  have HPO : Hid (∀ v A c b w', LAt w' A v.l → GetIs (ps.map CP.pr) x v b → Below w.heap.size w w' → GOut (ps.map CP.pr) x w (.returned (.tuple #[v.arg A c, .bool b])) w') :=
    hide fun v A c b w' h1 h2 h3 => ⟨v, A, c, b, rfl, h1, h2, h3⟩
  generalize hPO : GOut (ps.map CP.pr) x w = PO at *
  clear hPO hps
  cases hR : firstIdx (prIs (ps.map CP.pr) x) ps.length with
  | none =>
    have hfin : GetIs (ps.map CP.pr) x (.mk 0 0 0 ⟨#[]⟩ []) false := .inl ⟨by rw [List.length_map]; exact hR, rfl, rfl⟩
    have HFIN := hide (fun w' hb => HPO.out (.mk 0 0 0 ⟨#[]⟩ []) none 0 false w' (lAt_nil w') hfin hb)
    simp only [V.arg, V.k, V.i, V.t, V.s, V.l, List.length_nil] at HFIN
    rw [hR] at HFD
    simp only [idxInt] at HFD
    clear hfin hR hA hfit
    go_enter Tryz.func11, Tryz.ntmps11
    go_wp2_with (go_at_call 29; refine (HFD.out _ ?hbw).mono ?_; (case hbw => exact (by repeat (first | exact Below.refl _ _ | refine bl_plus ?_ | refine bl_alloc ?_ _ | refine bl_drew ?_ | refine bl_drewN ?_ _))); rintro e w' ⟨rfl, hbl⟩; obtain ⟨os1, n1, rfl⟩ := below_plus hbl; clear hbl)
    refine bodyPost_ret (v := .tuple #[.agg #[.int .i64 0, .int .i64 0, .int .i64 0, .string ⟨#[]⟩, .slice none 0 0], .bool false]) (by simp [results, Tryz.results11, go_sem]) rfl ?_
    exact HFIN.out _ (by repeat (first | exact Below.refl _ _ | refine bl_plus ?_ | refine bl_alloc ?_ _ | refine bl_drew ?_ | refine bl_drewN ?_ _))
  | some q =>
    have hq : q < ps.length := (firstIdx_lt hR).1
    obtain ⟨b, o, rfl, hb, hcell⟩ := hA.cells (by omega)
    have c1 := hcell q hq 1 (by omega)
    have c2 := hcell q hq 2 (by omega)
    have c3 := hcell q hq 3 (by omega)
    have c4 := hcell q hq 4 (by omega)
    have c5 := hcell q hq 5 (by omega)
    have hins := hA.ins ps[q] (List.getElem_mem hq)
    have hft := hfit ps[q] (List.getElem_mem hq)
    have hfin : GetIs (ps.map CP.pr) x ps[q].q.x true := .inr ⟨q, by rw [List.length_map]; exact hq, by rw [List.length_map]; exact hR, by rw [List.getElem_map]; rfl, rfl⟩
    have i1 : (q : Int) < (ps.length : Int) := by omega
    have i2 : ¬ ((q : Int) < 0) := by omega
    rw [hR] at HFD
    simp only [idxInt] at HFD
    clear hcell hR hA hfit
    generalize ps[q] = y at *
    obtain ⟨nm, ⟨xv, A2, e2⟩⟩ := y
    obtain ⟨xk, xi, xt, xs, xl⟩ := xv
    dsimp only [CP.cells, CVal.cells, V.k, V.i, V.t, V.s, V.l] at c1 c2 c3 c4 c5 hins hft hfin
    simp only [List.getElem?_cons_zero, List.getElem?_cons_succ, Nat.add_zero] at c1 c2 c3 c4 c5
    have HCC := hide (fun W (hbw : Below w.heap.size w W) => copyValue_any (.mk xk xi xt xs xl) hft A2 e2 W (LIn.at_ ((hins.frame (w' := W) (fun b hb => hbw.block b hb)).mono (fun b hb => Nat.lt_of_lt_of_le hb hbw.size)) (fun b hb => hb)))
    have HFIN := hide (fun A3 w' hL hb => HPO.out _ A3 xl.length true w' hL hfin hb)
    unfold CopyOut at HCC
    simp only [V.arg, V.k, V.i, V.t, V.s, V.l] at HCC HFIN
    clear hins hft hfin
    go_enter Tryz.func11, Tryz.ntmps11
    go_wp2_with (first | (go_at_call 29; refine (HFD.out _ ?hbw).mono ?_; (case hbw => exact (by repeat (first | exact Below.refl _ _ | refine bl_plus ?_ | refine bl_alloc ?_ _ | refine bl_drew ?_ | refine bl_drewN ?_ _))); rintro e w' ⟨rfl, hbl⟩; obtain ⟨os1, n1, rfl⟩ := below_plus hbl; clear hbl) | (go_at_call 32; refine (HCC.out _ ?hbw).mono ?_; (case hbw => exact (by repeat (first | exact Below.refl _ _ | refine bl_plus ?_ | refine bl_alloc ?_ _ | refine bl_drew ?_ | refine bl_drewN ?_ _))); rintro e w' ⟨A3, rfl, hA3, hl3, hbl⟩; have HL3 := hide hl3; obtain ⟨os2, n2, rfl⟩ := below_plus hbl; clear hA3 hl3 hbl))
    refine bodyPost_ret (v := .tuple #[.agg #[.int .i64 xk, .int .i64 xi, .int .i64 xt, .string xs, .slice A3 xl.length xl.length], .bool true]) (by simp [results, Tryz.results11, go_sem]) rfl ?_
    refine HFIN.out A3 _ ((HL3.out.frame (fun b hb => plus_heap_swapP (by simp only [plus_size, World.size_alloc]) (by have := hb.1; simp only [plus_size, World.size_alloc] at this ⊢; exact this))).at_ (fun b hb => by have := hb.2; simp only [plus_size, World.size_alloc] at this ⊢; exact this)) (by repeat (first | exact Below.refl _ _ | refine bl_plus ?_ | refine bl_alloc ?_ _ | refine bl_drew ?_ | refine bl_drewN ?_ _))

end Go.Proofs.YtfnooipkghfmoaaGreatDoor
/-
  WALK: the law PropChanges.
-/
namespace Go.Proofs.YtfnooipkghfmoaaGreatDoor
open Go.RowKit Go.Lib

set_option maxHeartbeats 12800000 in
set_option maxRecDepth 100000 in
theorem propChanges_any (A : Option Addr) (c : Nat) (ps : List CP) (x : ByteArray) (v : V) (A2 : Option Addr) (c2 : Nat) (w : World) (hA : PsC w A ps) (hfit : ∀ p ∈ ps, p.q.x.fits) (hx : x.size ≤ maxLen) (hvf : v.fits) (hv : LAt w A2 v.l) (hps : PsAt w A (ps.map CP.pr)) :
    Calls Tryz.prog 3 #[.slice A ps.length c, .string x, v.arg A2 c2] w fun e w' => e = .returned (.bool true) ∧ Below w.heap.size w w' := by
  have H1 := hide (fun W (hb : Below w.heap.size w W) => put_any A c ps x v A2 c2 W (hA.below hb) hfit hx hvf (hv.below hb) (hps.below hb))
  have H2 := hide (fun W (hb : Below w.heap.size w W) => putOf_any A c ps x v A2 c2 W (hA.below hb) hfit hx hvf (hv.below hb) (hps.below hb))
  have H3 := hide (fun W (hb : Below w.heap.size w W) => drop_any A c ps x W (hA.below hb) hfit (hps.below hb))
  have H4 := hide (fun W (hb : Below w.heap.size w W) => dropOf_any A c ps x W (hA.below hb) hx (hps.below hb))
  have H5 := hide (fun W (hb : Below w.heap.size w W) => get_any A c ps x W (hA.below hb) hfit (hps.below hb))
  have H6 := hide (fun W (hb : Below w.heap.size w W) => getR_any A c (ps.map CP.pr) x W (hps.below hb))
  have HAP := hide (fun A B c d l w hA hB => alike_props A B c d l w hA hB)
  have HAV := hide (fun k i t s l A B c d w hA hB => alike_value (.mk k i t s l) A B c d w hA hB)
  simp only [List.length_map] at H6
  unfold POut at H1 H2 H3 H4
  unfold GOut at H5 H6
  generalize ps.map CP.pr = L at *
  obtain ⟨k, i, t, s, l⟩ := v
  simp only [V.arg, V.k, V.i, V.t, V.s, V.l] at *
  clear hA hfit hx hvf hv hps
  go_enter Tryz.func3, Tryz.ntmps3
  go_wp2_with (first | (go_at_call 7; refine (H1.out _ ?hbw).mono ?_; (case hbw => exact (by repeat (first | with_reducible exact Below.refl _ _ | with_reducible refine bl_plus ?_ | with_reducible refine bl_alloc ?_ _ | with_reducible refine bl_drew ?_ | with_reducible refine bl_drewN ?_ _))); rintro e w' ⟨A1, c1, r1, E1, rfl, hp, hi, hbl⟩; have HP1 := hide hp; have HI1 := hide hi; clear hp hi; obtain ⟨os1, n1, rfl⟩ := below_plus hbl; clear hbl) | (go_at_call 8; refine (H2.out _ ?hbw).mono ?_; (case hbw => exact (by repeat (first | with_reducible exact Below.refl _ _ | with_reducible refine bl_plus ?_ | with_reducible refine bl_alloc ?_ _ | with_reducible refine bl_drew ?_ | with_reducible refine bl_drewN ?_ _))); rintro e w' ⟨A2, c2, r2, E2, rfl, hp, hi, hbl⟩; obtain ⟨rfl, rfl⟩ := PutIs.same HI1.out hi; have HP2 := hide hp; clear hp hi; obtain ⟨os2, n2, rfl⟩ := below_plus hbl; clear hbl) | (go_at_call 9; refine (H3.out _ ?hbw).mono ?_; (case hbw => exact (by repeat (first | with_reducible exact Below.refl _ _ | with_reducible refine bl_plus ?_ | with_reducible refine bl_alloc ?_ _ | with_reducible refine bl_drew ?_ | with_reducible refine bl_drewN ?_ _))); rintro e w' ⟨A3, c3, r3, E3, rfl, hp, hi, hbl⟩; have HP3 := hide hp; have HI3 := hide hi; clear hp hi; obtain ⟨os3, n3, rfl⟩ := below_plus hbl; clear hbl) | (go_at_call 10; refine (H4.out _ ?hbw).mono ?_; (case hbw => exact (by repeat (first | with_reducible exact Below.refl _ _ | with_reducible refine bl_plus ?_ | with_reducible refine bl_alloc ?_ _ | with_reducible refine bl_drew ?_ | with_reducible refine bl_drewN ?_ _))); rintro e w' ⟨A4, c4, r4, E4, rfl, hp, hi, hbl⟩; obtain ⟨rfl, rfl⟩ := DropIs.same HI3.out hi; have HP4 := hide hp; clear hp hi; obtain ⟨os4, n4, rfl⟩ := below_plus hbl; clear hbl) | (go_at_call 11; refine (H5.out _ ?hbw).mono ?_; (case hbw => exact (by repeat (first | with_reducible exact Below.refl _ _ | with_reducible refine bl_plus ?_ | with_reducible refine bl_alloc ?_ _ | with_reducible refine bl_drew ?_ | with_reducible refine bl_drewN ?_ _))); rintro e w' ⟨⟨vk, vi, vt, vs, vl⟩, A5, c5, b5, rfl, hp, hi, hbl⟩; have HP5 := hide hp; have HI5 := hide hi; clear hp hi; obtain ⟨os5, n5, rfl⟩ := below_plus hbl; clear hbl) | (go_at_call 12; refine (H6.out _ ?hbw).mono ?_; (case hbw => exact (by repeat (first | with_reducible exact Below.refl _ _ | with_reducible refine bl_plus ?_ | with_reducible refine bl_alloc ?_ _ | with_reducible refine bl_drew ?_ | with_reducible refine bl_drewN ?_ _))); rintro e w' ⟨v6, A6, c6, b6, rfl, hp, hi, hbl⟩; obtain ⟨hv6, rfl⟩ := GetIs.same HI5.out hi; subst hv6; have HP6 := hide hp; clear hp hi; obtain ⟨os6, n6, rfl⟩ := below_plus hbl; clear hbl) | (go_at_call_of 13 (Value.slice A1 r1.length c1); with_reducible refine Calls.mono (HAP.out A1 A2 c1 c2 _ _ ?h1 ?h2) ?_; (case h1 => exact HP1.out.below (by repeat (first | with_reducible exact Below.refl _ _ | with_reducible refine bl_plus ?_ | with_reducible refine bl_alloc ?_ _ | with_reducible refine bl_drew ?_ | with_reducible refine bl_drewN ?_ _))); (case h2 => exact HP2.out.below (by repeat (first | with_reducible exact Below.refl _ _ | with_reducible refine bl_plus ?_ | with_reducible refine bl_alloc ?_ _ | with_reducible refine bl_drew ?_ | with_reducible refine bl_drewN ?_ _))); rintro e w' ⟨rfl, hbl⟩; obtain ⟨os7, n7, rfl⟩ := below_plus hbl; clear hbl) | (go_at_call_of 13 (Value.slice A3 r3.length c3); with_reducible refine Calls.mono (HAP.out A3 A4 c3 c4 _ _ ?h1 ?h2) ?_; (case h1 => exact HP3.out.below (by repeat (first | with_reducible exact Below.refl _ _ | with_reducible refine bl_plus ?_ | with_reducible refine bl_alloc ?_ _ | with_reducible refine bl_drew ?_ | with_reducible refine bl_drewN ?_ _))); (case h2 => exact HP4.out.below (by repeat (first | with_reducible exact Below.refl _ _ | with_reducible refine bl_plus ?_ | with_reducible refine bl_alloc ?_ _ | with_reducible refine bl_drew ?_ | with_reducible refine bl_drewN ?_ _))); rintro e w' ⟨rfl, hbl⟩; obtain ⟨os7, n7, rfl⟩ := below_plus hbl; clear hbl) | (go_at_call_of 13 (Value.slice A5 vl.length c5); with_reducible refine Calls.mono (HAV.out vk vi vt vs vl A5 A6 c5 c6 _ ?h1 ?h2) ?_; (case h1 => exact LAt.below HP5.out (by repeat (first | with_reducible exact Below.refl _ _ | with_reducible refine bl_plus ?_ | with_reducible refine bl_alloc ?_ _ | with_reducible refine bl_drew ?_ | with_reducible refine bl_drewN ?_ _))); (case h2 => exact LAt.below HP6.out (by repeat (first | with_reducible exact Below.refl _ _ | with_reducible refine bl_plus ?_ | with_reducible refine bl_alloc ?_ _ | with_reducible refine bl_drew ?_ | with_reducible refine bl_drewN ?_ _))); rintro e w' ⟨rfl, hbl⟩; obtain ⟨os7, n7, rfl⟩ := below_plus hbl; clear hbl))
  go_ret
  exact ⟨by simp, (by repeat (first | with_reducible exact Below.refl _ _ | with_reducible refine bl_plus ?_ | with_reducible refine bl_alloc ?_ _ | with_reducible refine bl_drew ?_ | with_reducible refine bl_drewN ?_ _))⟩

end Go.Proofs.YtfnooipkghfmoaaGreatDoor
