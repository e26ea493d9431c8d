/-
  WALK: a list with a value for a name (the program's).
-/
import Derived.Test.YtdncmjlakmkfiaaGreatDoorPzj
import Derived.Test.YtdncmjlakmkfiaaGreatDoorPzk
import Derived.Deep.RegionLaw
set_option linter.all false
namespace Go.Proofs.YtdncmjlakmkfiaaGreatDoor
open Go.RowKit Go.Lib

theorem withIs_sorted {x : ByteArray} {v : V} {l : List PR} {qs : List CP} {c : CP} (hv : v.k ≠ 0) (hq : qs.map CP.pr = othersR x l) (hc : c.pr = ⟨x, v⟩) : WithIs x v l ((sortCP (qs ++ [c])).map CP.pr) := by
  refine .inr ⟨hv, ?_, ?_⟩
  · have := (sortCP_perm2 (qs ++ [c])).map CP.pr
    rw [List.map_append, hq, List.map_singleton, hc] at this
    exact this
  · rw [List.pairwise_map]
    exact sortCP_sorted _

end Go.Proofs.YtdncmjlakmkfiaaGreatDoor
/-
  WALK: a list with a value for a name (the reference's).
-/
namespace Go.Proofs.YtdncmjlakmkfiaaGreatDoor
open Go.RowKit Go.Lib

set_option maxHeartbeats 6400000 in
set_option maxRecDepth 100000 in
theorem withR_any (A : Option Addr) (c : Nat) (ps : List CP) (x : ByteArray) (v : V) (A2 : Option Addr) (c2 : Nat) (w : World) (hA : PsC w A ps) (hlen : ps.length ≤ 100) (hx : x.size ≤ maxLen) (hv : LAt w A2 v.l) :
    Calls Tryz.prog 47 #[.slice A ps.length c, .string x, v.arg A2 c2] w (RowIs (WithIs x v (ps.map CP.pr)) w) := by
  obtain ⟨k, i, t, s, l⟩ := v
  have HX := hide hx
  have hv : LAt w A2 l := hv
  have hbw1 : Below w.heap.size w ((w.alloc (.cells #[.string x] 9)).alloc (.cells #[.int .i64 k, .int .i64 i, .int .i64 t, .string s, .slice A2 l.length c2] 24)) := bl_alloc (bl_alloc (Below.refl _ _) _) _
  have hsz : ((w.alloc (.cells #[.string x] 9)).alloc (.cells #[.int .i64 k, .int .i64 i, .int .i64 t, .string s, .slice A2 l.length c2] 24)).heap.size = w.heap.size + 2 := by simp
  have hx1 : ((w.alloc (.cells #[.string x] 9)).alloc (.cells #[.int .i64 k, .int .i64 i, .int .i64 t, .string s, .slice A2 l.length c2] 24)).cell? ⟨w.heap.size, 0, none⟩ = some (.string x) := (Blk.alloc (Blk.new w 9 #[.string x]) _).cell 0
  have HCL := hide (clonePs_any A c ps ((w.alloc (.cells #[.string x] 9)).alloc (.cells #[.int .i64 k, .int .i64 i, .int .i64 t, .string s, .slice A2 l.length c2] 24)) (hA.below hbw1) (by omega))
  unfold RowOut at HCL
  rw [hsz] at HCL
  have HDL := hide (fun (W : World) (A' : Option Addr) (c' : Nat) (hb : Below (w.heap.size + 2) ((w.alloc (.cells #[.string x] 9)).alloc (.cells #[.int .i64 k, .int .i64 i, .int .i64 t, .string s, .slice A2 l.length c2] 24)) W) (hr : Row6 W (w.heap.size + 2) (.slice A' ps.length c') ps) => (by
    refine (deleteP_any _ asks_with (w.heap.size + 2) c' A' ps w.heap.size x W (by omega) hr ((hb.cell (p := ⟨w.heap.size, 0, none⟩) (by show w.heap.size < _; omega)).trans hx1) (by omega) (by have := hb.size; omega)).mono ?_
    rintro e w' ⟨⟨rfl, h1⟩, h2⟩
    exact ⟨rfl, h1, hb.trans h2⟩ : Calls Tryz.prog 89 #[.slice A' ps.length c', .func (.func 91) #[] #[.pointer (some ⟨w.heap.size, 0, none⟩)]] W fun e w' => e = .returned (.slice A' (others x ps).length c') ∧ Row6 w' (w.heap.size + 2) (.slice A' (others x ps).length c') (others x ps) ∧ Below (w.heap.size + 2) ((w.alloc (.cells #[.string x] 9)).alloc (.cells #[.int .i64 k, .int .i64 i, .int .i64 t, .string s, .slice A2 l.length c2] 24)) w'))
  have HPO : Hid (∀ (A' : Option Addr) (c' : Nat) (qs : List CP) (w' : World), Row6 w' w.heap.size (.slice A' qs.length c') qs → WithIs x (.mk k i t s l) (ps.map CP.pr) (qs.map CP.pr) → Below w.heap.size w w' → RowIs (WithIs x (.mk k i t s l) (ps.map CP.pr)) w (.returned (.slice A' qs.length c')) w') :=
    hide fun A' c' qs w' h1 h2 h3 => ⟨A', c', qs, rfl, h1, h2, h3⟩
  have hq20 : (others x ps).length ≤ 100 := by have : (others x ps).length ≤ ps.length := List.length_filter_le ..; omega
  have HQ := hide (others_map x ps)
  generalize RowIs (WithIs x (.mk k i t s l) (ps.map CP.pr)) w = PO at *
  have HBX := hide hbw1
  clear hA hx hx1 hbw1
  simp only [V.arg, V.k, V.i, V.t, V.s, V.l] at *
  generalize others x ps = qs at *
  by_cases hk : k = 0
  · subst hk
    clear hv
    go_enter Tryz.func47, Tryz.ntmps47
    go_wp2_with (first | (go_at_call 90; refine HCL.out.mono ?_; rintro e w' ⟨A1, c1, rfl, hrow, hbl⟩; have HR := hide hrow; have HB := hide hbl; clear hrow hbl) | (go_at_call 89; refine (HDL.out _ _ _ HB.out HR.out).mono ?_; rintro e w' ⟨rfl, hrow, hbl⟩; have HFIN := hide (HPO.out A1 c1 qs w' (hrow.low (by omega)) (.inl ⟨rfl, HQ.out⟩) (bl_trans HBX.out (by rw [hsz]; exact hbl))); obtain ⟨os1, n1, rfl⟩ := below_plus (by rw [hsz]; exact hbl : Below ((w.alloc (.cells #[.string x] 9)).alloc (.cells #[.int .i64 0, .int .i64 i, .int .i64 t, .string s, .slice A2 l.length c2] 24)).heap.size ((w.alloc (.cells #[.string x] 9)).alloc (.cells #[.int .i64 0, .int .i64 i, .int .i64 t, .string s, .slice A2 l.length c2] 24)) w'); clear hrow hbl))
    exact HFIN.out
  · have hk0 : (k != 0) = true := by simp [hk]
    obtain ⟨iP, hiP, hzP0, hzP1, hzP2⟩ := info_parts info_prop
    have HIP := hide (And.intro hiP (And.intro hzP0 (And.intro hzP1 hzP2)))
    have HV := hide (LIn_of_at hv)
    have HK := hide hk
    clear hiP hzP0 hzP1 hzP2 hv hk
    go_enter Tryz.func47, Tryz.ntmps47
    go_upto_region 4 with (first | (go_at_call 90; refine HCL.out.mono ?_; rintro e w' ⟨A1, c1, rfl, hrow, hbl⟩; have HR := hide hrow; have HB := hide hbl; clear hrow hbl) | (go_at_call 89; refine (HDL.out _ _ _ HB.out HR.out).mono ?_; rintro e w' ⟨rfl, hrow, hbl⟩; have HR2 := hide hrow; have HB2 := hide (show Below ((w.alloc (.cells #[.string x] 9)).alloc (.cells #[.int .i64 k, .int .i64 i, .int .i64 t, .string s, .slice A2 l.length c2] 24)).heap.size ((w.alloc (.cells #[.string x] 9)).alloc (.cells #[.int .i64 k, .int .i64 i, .int .i64 t, .string s, .slice A2 l.length c2] 24)) w' from by rw [hsz]; exact hbl); have HB3 := hide (bl_trans HBX.out HB2.out); obtain ⟨os1, n1, rfl⟩ := below_plus HB2.out; clear hrow hbl) | (at_builtin; refine wpList_append_m rfl (.tmp 15) (.tmp 19) rfl rfl Tryz.underlying30 HIP.out.1 HIP.out.2.1 HIP.out.2.2.1 (by decide) rfl (by have := HIP.out.2.2.2; omega) (w.heap.size + 2) qs.length 1 (.slice A1 qs.length c1) (flatCP qs) [.string x, .int .i64 k, .int .i64 i, .int .i64 t, .string s, .slice A2 l.length c2] _ rfl (ownK_alloc HR2.out.own _) (by decide) rfl (by intro u hu; simp only [List.mem_cons, List.not_mem_nil, or_false] at hu; rcases hu with rfl | rfl | rfl | rfl | rfl | rfl <;> rfl) rfl (newN_cells (cs := [_, _, _, _, _, _]) (by simp only [World.size_alloc, plus_size])) (by omega) (by have h2 := HB2.out.size; simp only [World.size_alloc] at h2 ⊢; omega) ?_; intro v' w1 hown1 hgr1 hfr1; obtain ⟨A9, c9, rfl, _⟩ := ownK_form hown1; have HN := hide hown1; have HGR := hide hgr1; have HFR := hide hfr1; clear hown1 hgr1 hfr1))
    generalize plus ((w.alloc (.cells #[.string x] 9)).alloc (.cells #[.int .i64 k, .int .i64 i, .int .i64 t, .string s, .slice A2 l.length c2] 24)) os1 n1 = V at *
    have hrow := Row6.push (p := ⟨x, ⟨.mk k i t s l, A2, c2⟩⟩) (HR2.out.below (bl_alloc (Below.refl _ _) (.cells #[.string x, .int .i64 k, .int .i64 i, .int .i64 t, .string s, .slice A2 l.length c2] 47))) HGR.out HFR.out HN.out
      (((HV.out.frame (w' := V) (fun b hb => HB3.out.block b hb)).frame (fun b hb => Below.heap_alloc _ _ b (Nat.lt_of_lt_of_le hb HB3.out.size))).mono (fun b hb => ⟨by have := HB3.out.size; rw [World.size_alloc]; omega, fun e => by
        have h1 := (HR2.out.own.lt b e).1
        omega⟩)) HX.out
    have hbw1 : Below w.heap.size w w1 := (bl_alloc HB3.out _).grown HGR.out (by have h1 := HB3.out.size; simp only [World.size_alloc]; omega) (fun k hk => by have := (HR2.out.own.lt k hk).1; omega)
    have hlen9 : (qs ++ [(⟨x, ⟨.mk k i t s l, A2, c2⟩⟩ : CP)]).length = qs.length + 1 := by rw [List.length_append]; rfl
    have hw9 := withIs_sorted (x := x) (v := .mk k i t s l) (c := ⟨x, ⟨.mk k i t s l, A2, c2⟩⟩) HK.out HQ.out rfl
    generalize qs ++ [(⟨x, ⟨.mk k i t s l, A2, c2⟩⟩ : CP)] = xs at hrow hlen9 hw9
    rw [← hlen9] at hrow
    have hsrt := sortRow_any 93 (Go.Proofs.enters_of Tryz.func93 (by kernel_rfl) rfl) lessB_any (w.heap.size + 2) c9 A9 xs w1 hrow (by omega)
    rw [hlen9] at hsrt
    have hfin : ∀ w2, w1.grownBy w2 (Value.slice A9 (qs.length + 1) c9).ownBlock → Row6 w2 (w.heap.size + 2) (.slice A9 (qs.length + 1) c9) (sortCP xs) → PO (.returned (.slice A9 (qs.length + 1) c9)) w2 := by
      intro w2 hg hr
      have hn := hr.clip.1
      have hr2 := hr
      rw [hn] at hr2 ⊢
      exact HPO.out A9 c9 (sortCP xs) w2 (hr2.low (by omega)) hw9 (hbw1.grown hg hbw1.size (fun k hk => by have := (hrow.own.lt k (by rw [hlen9]; exact hk)).1; omega))
    have HSRT := hide hsrt
    have HFIN := hide hfin
    clear hrow hbw1 hlen9 hw9 hsrt hfin
    go_wp2_with (go_at_call 92; refine HSRT.out.mono ?_; rintro e w' ⟨rfl, hg2, hr2⟩; have HF2 := hide (HFIN.out _ hg2 hr2); clear hg2 hr2)
    exact HF2.out

end Go.Proofs.YtdncmjlakmkfiaaGreatDoor
