/-
  WALK: a rule as text, in the program.
-/
import Derived.Test.YtididkdmbpfjnaaDoorRlu
import Derived.Deep.CutBlock
import Derived.Deep.RegionHeld3
import Derived.Deep.DeepCutAuto
namespace Go.Proofs.YtididkdmbpfjnaaDoor
open Go.RowKit Cal

theorem unit_cases (u : Int) (h : 1 ≤ u ∧ u ≤ 4) : ∃ k : Nat, k < 4 ∧ u = k + 1 ∧ unitsArr[k]? = some (.string (unitB u)) := by
  have : u = 1 ∨ u = 2 ∨ u = 3 ∨ u = 4 := by omega
  rcases this with rfl | rfl | rfl | rfl
  · exact ⟨0, by omega, rfl, rfl⟩
  · exact ⟨1, by omega, rfl, rfl⟩
  · exact ⟨2, by omega, rfl, rfl⟩
  · exact ⟨3, by omega, rfl, rfl⟩

/-- The cells of a rule. -/
def RCells (w : World) (b : Nat) (r : Rul) (A B C : Option Addr) (a b' c : Nat) : Prop :=
  w.cell? ⟨b, 0, none⟩ = some (.int .i64 r.u) ∧ w.cell? ⟨b, 1, none⟩ = some (.int .i64 r.e) ∧ w.cell? ⟨b, 2, none⟩ = some (.int .i64 r.f) ∧ w.cell? ⟨b, 3, none⟩ = some (.int .i64 r.t) ∧ w.cell? ⟨b, 4, none⟩ = some (.int .i64 r.c) ∧
  w.cell? ⟨b, 5, none⟩ = some (.slice A r.wd.length a) ∧ w.cell? ⟨b, 6, none⟩ = some (.slice B r.da.length b') ∧ w.cell? ⟨b, 7, none⟩ = some (.int .i64 r.n) ∧ w.cell? ⟨b, 8, none⟩ = some (.slice C r.sk.length c)
theorem RCells.below {w w' : World} {g b : Nat} {r : Rul} {A B C : Option Addr} {a b' c : Nat} (h : RCells w b r A B C a b' c) (hb : Below g w w') (hlt : b < g) : RCells w' b r A B C a b' c := by
  obtain ⟨h0, h1, h2, h3, h4, h5, h6, h7, h8⟩ := h
  exact ⟨(hb.cell (p := ⟨b, 0, none⟩) hlt).trans h0, (hb.cell (p := ⟨b, 1, none⟩) hlt).trans h1, (hb.cell (p := ⟨b, 2, none⟩) hlt).trans h2, (hb.cell (p := ⟨b, 3, none⟩) hlt).trans h3, (hb.cell (p := ⟨b, 4, none⟩) hlt).trans h4,
    (hb.cell (p := ⟨b, 5, none⟩) hlt).trans h5, (hb.cell (p := ⟨b, 6, none⟩) hlt).trans h6, (hb.cell (p := ⟨b, 7, none⟩) hlt).trans h7, (hb.cell (p := ⟨b, 8, none⟩) hlt).trans h8⟩
theorem rcells_new (w : World) (r : Rul) (A B C : Option Addr) (a b' c : Nat) (os : Array Obj) (n : Nat) (o : Obj) :
    RCells ((plus (w.alloc (.cells #[.int .i64 r.u, .int .i64 r.e, .int .i64 r.f, .int .i64 r.t, .int .i64 r.c, .slice A r.wd.length a, .slice B r.da.length b', .int .i64 r.n, .slice C r.sk.length c] 24)) os n).alloc o) w.heap.size r A B C a b' c := by
  have h := ((Blk.new w 24 #[.int .i64 r.u, .int .i64 r.e, .int .i64 r.f, .int .i64 r.t, .int .i64 r.c, .slice A r.wd.length a, .slice B r.da.length b', .int .i64 r.n, .slice C r.sk.length c]).plus (os := os) (n := n)).alloc o
  exact ⟨h.cell 0, h.cell 1, h.cell 2, h.cell 3, h.cell 4, h.cell 5, h.cell 6, h.cell 7, h.cell 8⟩

theorem cell_alloc_lt {w : World} {b o : Nat} {x : Obj} (h : b < w.heap.size) : (w.alloc x).cell? ⟨b, o, none⟩ = w.cell? ⟨b, o, none⟩ := ((Below.refl w.heap.size w).alloc (Nat.le_refl _) x).cell (p := ⟨b, o, none⟩) h
theorem alloc_plus (w : World) (o : Obj) : w.alloc o = plus w (#[].push o) w.drawn := by
  have := plus_alloc (w := w) (os := #[]) (n := w.drawn) o
  rwa [plus_nil] at this
theorem Bld.alloc {w : World} {g : Nat} {l : List UInt8} (h : Bld w g l) (o : Obj) : Bld (w.alloc o) g l := by rw [alloc_plus]; exact Bld.plus h
theorem Bld.drew {w : World} {g : Nat} {l : List UInt8} (h : Bld w g l) : Bld w.drew g l := by
  have := plus_drew (w := w) (os := #[]) (n := w.drawn)
  rw [plus_nil] at this
  rw [this]; exact Bld.plus h

def TextR (r : Rul) (w : World) (e : Ending) (w' : World) : Prop := e = .returned (.tuple #[.string r.out.1, .int .i64 r.out.2]) ∧ Below w.heap.size w w'

set_option maxHeartbeats 800000 in
theorem ruleText_bad (r : Rul) (v : Value) (w : World) (h : RulAt w r v) (he : r.err ≠ 0) :
    Calls Tryd.prog 7 #[v] w (TextR r w) := by
  unfold TextR
  have ho : r.out = (⟨#[]⟩, r.err) := if_pos he
  rw [ho]
  have HC := hide (fun w v h => checkRule_any r v w h)
  have HA := hide h
  obtain ⟨A, B, C, a, b, c, rfl, h1, h2, h3, h4, h5, h6⟩ := h.ex
  have hne : (r.err != 0) = true := bne_iff_ne.2 he
  clear ho h h1 h2 h3 h4 h5 h6 he
  generalize r.err = E at *
  go_enter Tryd.func7, Tryd.ntmps7
  go_wp2_with (go_at_call 9; refine (HC.out _ _ (HA.out.below (by repeat (first | exact Below.refl _ _ | refine bl_plus ?_ | refine bl_alloc ?_ _ | refine bl_drew ?_)))).mono ?_; rintro e w' ⟨rfl, hbl⟩; obtain ⟨os1, n1, rfl⟩ := below_plus hbl; clear hbl)
  go_ret2
  exact ⟨rfl, (by repeat (first | exact Below.refl _ _ | refine bl_plus ?_ | refine bl_alloc ?_ _ | refine bl_drew ?_))⟩

set_option maxHeartbeats 6400000 in
set_option maxRecDepth 100000 in
theorem ruleText_good (r : Rul) (v : Value) (w : World) (h : RulAt w r v) (he : r.err = 0) (hp : PowTab w) (h7 : ¬ 2000 < r.s7.size ∨ 2000 < r.s7.size) :
    Calls Tryd.prog 7 #[v] w (TextR r w) := by
  unfold TextR
  have hG := Rul.good he
  have ho : r.out = if 2000 < r.s7.size then (⟨#[]⟩, 4) else (r.s7, 0) := if_neg (by omega)
  generalize r.out = O at *
  obtain ⟨O1, O2⟩ := O
  have HO := hide ho
  have hck := fun w v h => checkRule_any r v w h
  rw [he] at hck
  have HC := hide hck
  have HA := hide h
  obtain ⟨A, B, C, a, b, c, rfl, h1, h2, h3, h4, h5, h6⟩ := h.ex
  have HG := hide hG
  clear ho hck h he h4 h5 h6
  have HP := hide hp
  go_enter Tryd.func7, Tryd.ntmps7
  clear hp hG
  go_upto_region 6 with (go_at_call 9; refine (HC.out _ _ (HA.out.below (by repeat (first | exact Below.refl _ _ | refine bl_plus ?_ | refine bl_alloc ?_ _ | refine bl_drew ?_)))).mono ?_; rintro e w' ⟨rfl, hbl⟩; obtain ⟨os1, n1, rfl⟩ := below_plus hbl; clear hbl)
  have hcs := rcells_new w r A B C a b c os1 n1 (.cells #[.pointer none, .slice none 0 0] 61)
  have hbn := bld_new (plus (w.alloc (.cells #[.int .i64 r.u, .int .i64 r.e, .int .i64 r.f, .int .i64 r.t, .int .i64 r.c, .slice A r.wd.length a, .slice B r.da.length b, .int .i64 r.n, .slice C r.sk.length c] 24)) os1 n1)
  have hbw : Below w.heap.size w ((plus (w.alloc (.cells #[.int .i64 r.u, .int .i64 r.e, .int .i64 r.f, .int .i64 r.t, .int .i64 r.c, .slice A r.wd.length a, .slice B r.da.length b, .int .i64 r.n, .slice C r.sk.length c] 24)) os1 n1).alloc (.cells #[.pointer none, .slice none 0 0] 61)) := (by repeat (first | exact Below.refl _ _ | refine bl_plus ?_ | refine bl_alloc ?_ _ | refine bl_drew ?_))
  have hgs : (plus (w.alloc (.cells #[.int .i64 r.u, .int .i64 r.e, .int .i64 r.f, .int .i64 r.t, .int .i64 r.c, .slice A r.wd.length a, .slice B r.da.length b, .int .i64 r.n, .slice C r.sk.length c] 24)) os1 n1).heap.size = w.heap.size + 1 + os1.size := by rw [plus_size, World.size_alloc]
  rw [hgs] at hbn
  have hgl : w.heap.size + 1 + os1.size < ((plus (w.alloc (.cells #[.int .i64 r.u, .int .i64 r.e, .int .i64 r.f, .int .i64 r.t, .int .i64 r.c, .slice A r.wd.length a, .slice B r.da.length b, .int .i64 r.n, .slice C r.sk.length c] 24)) os1 n1).alloc (.cells #[.pointer none, .slice none 0 0] 61)).heap.size := by rw [World.size_alloc, plus_size, World.size_alloc]; omega
  clear hgs
  generalize ((plus (w.alloc (.cells #[.int .i64 r.u, .int .i64 r.e, .int .i64 r.f, .int .i64 r.t, .int .i64 r.c, .slice A r.wd.length a, .slice B r.da.length b, .int .i64 r.n, .slice C r.sk.length c] 24)) os1 n1).alloc (.cells #[.pointer none, .slice none 0 0] 61)) = W at *
  have hrg : w.heap.size < w.heap.size + 1 + os1.size := by omega
  have hwg : w.heap.size ≤ w.heap.size + 1 + os1.size := by omega
  generalize w.heap.size + 1 + os1.size = g at *
  have HPW := hide (fun wx (hb : Below g W wx) => powTab_below HP.out (hbw.trans (hb.mono hwg)))
  have HIW := hide (fun (l : List Int) (D : Option Addr) (hI : IntsAt w D l) wx (hb : Below g W wx) => hI.below (hbw.trans (hb.mono hwg)))
  obtain ⟨k, hk4, hku, hkU⟩ := unit_cases r.u HG.out.u
  have HCS := hide hcs
  obtain ⟨c0, c1, -⟩ := hcs
  have HBN := hide hbn
  have HBW := hide hbw
  have hgle : g ≤ W.heap.size := by omega
  have HIT := hide (fun w' ht => Tryd.itoa_any r.e (by have := HG.out.e; omega) (by have := HG.out.e; omega) w' ht)
  have hits : (⟨(Lib.itoa r.e).toArray⟩ : ByteArray) = itB r.e := rfl
  rw [hits] at HIT
  have HS0 := hide (show r.s0 = (((⟨#[101, 118, 101, 114, 121, 32]⟩ : ByteArray) ++ itB r.e) ++ (⟨#[32]⟩ : ByteArray)) ++ unitB r.u from rfl)
  have z0 := HG.out.z0
  have ze := itB_size (n := r.e) (by have := HG.out.e; omega) (by have := HG.out.e; omega)
  have zu := unitB_size r.u
  have q1 : (((⟨#[101, 118, 101, 114, 121, 32]⟩ : ByteArray) ++ itB r.e).size : Int) ≤ 27 := by rw [ByteArray.size_append]; have : (⟨#[101, 118, 101, 114, 121, 32]⟩ : ByteArray).size = 6 := rfl; omega
  have q2 : ((((⟨#[101, 118, 101, 114, 121, 32]⟩ : ByteArray) ++ itB r.e) ++ (⟨#[32]⟩ : ByteArray)).size : Int) ≤ 28 := by rw [ByteArray.size_append, ByteArray.size_append]; have : (⟨#[101, 118, 101, 114, 121, 32]⟩ : ByteArray).size = 6 := rfl; have : (⟨#[32]⟩ : ByteArray).size = 1 := rfl; omega
  clear hits hbw hbn HP HC HA z0
  rw [hku] at c0
  have HKU := hide hku
  clear hku
  go_cut [] from 14 to 26 (fun wx => Hid (Bld wx g r.s0.data.toList) ∧ Hid (Below g W wx))
  case first =>
    generalize unitB r.u = U at *
    generalize itB r.e = I at *
    have ze' : (I.size : Int) ≤ 21 := by omega
    have zu' : (U.size : Int) ≤ 5 := by omega
    have p1 : ¬ (9223372036854775807 < 6 + I.size) := by omega
    have p2 : ¬ (9223372036854775807 ≤ 6 + I.size) := by omega
    have p3 : ¬ (9223372036854775807 < 6 + I.size + 1 + U.size) := by omega
    have hwk : IntKind.i64.wrap (k : Int) = (k : Int) := by rw [IntKind.wrap_i64]; omega
    have p4 : ((((⟨#[101, 118, 101, 114, 121, 32]⟩ : ByteArray) ++ I) ++ (⟨#[32]⟩ : ByteArray)) ++ U).size ≤ 40 := by rw [ByteArray.size_append]; omega
    have k0' : (0 : Int) ≤ (k : Int) := by omega
    have k1' : (k : Int) < 4 := by omega
    have hWs : w.heap.size < W.heap.size := by omega
    clear ze zu
    go_region_with (first
        | (go_at_call 27; refine (HIT.out _ (HPW.out _ (Below.mono (by repeat (first | exact Below.refl _ _ | refine bl_plus ?_ | refine bl_alloc ?_ _ | refine bl_drew ?_)) hgle))).mono ?_; rintro e w' ⟨rfl, os2, n2, rfl⟩)
        | (go_at_call 28; refine (unitWords_any _).mono ?_; rintro e w' ⟨rfl, rfl⟩)
        | (go_at_call 26; refine (Tryd.bldWrite g [] _ _ (by repeat (first | exact HBN.out | refine Bld.drew ?_ | refine Bld.plus ?_ | refine Bld.alloc ?_ _)) (by rw [List.length_nil]; omega) (by simp only [plus_size, World.size_alloc]; omega)).mono ?_; rintro e w' ⟨rfl, hb, hbl⟩; have HB2 := hide hb; have HBL := hide hbl; clear hb hbl))
    all_goals
      go_wp2
      go_meet
      exact ⟨hide (by rw [HS0.out]; exact HB2.out), hide ((Below.mono (by repeat (first | exact Below.refl _ _ | refine bl_plus ?_ | refine bl_alloc ?_ _ | refine bl_drew ?_)) hgle).trans HBL.out)⟩
  case rest =>
    clear HS0 HIT c0 c1 HBN q1 q2 ze zu hkU hk4 HKU
    obtain ⟨HB, HBL⟩ := hcut
    obtain ⟨c0, c1, c2, c3, c4, c5, c6, c7, c8⟩ := HCS.out.below HBL.out hrg
    have hgx := Nat.le_trans hgle HBL.out.size
    have z0 := HG.out.z0
    go_upto_if 29 with fail
    generalize hd : (r.e != 1) = bd
    have HD := hide hd
    clear hd
    go_cut [] from 30 to 30 (fun wx => Hid (Bld wx g r.s1.data.toList) ∧ Hid (Below g W wx))
    case first =>
      by_cases h0 : r.e = 1
      · obtain rfl : bd = false := by rw [← HD.out, h0]; rfl
        have HS := hide (show r.s1 = r.s0 from if_neg (by omega))
        clear HD h0
        go_wp2
        go_meet
        exact ⟨hide (by rw [HS.out]; exact HB.out), HBL⟩
      · obtain rfl : bd = true := by rw [← HD.out]; exact bne_iff_ne.2 h0
        have HS := hide (show r.s1 = r.s0 ++ (⟨#[115]⟩ : ByteArray) from if_pos h0)
        clear HD h0
        go_wp2_with (go_at_call 26; refine (Tryd.bldWrite g r.s0.data.toList _ _ HB.out (by rw [str_len]; have : (⟨#[115]⟩ : ByteArray).size = 1 := rfl; omega) hgx).mono ?_; rintro e w' ⟨rfl, hb, hbl⟩; have HB2 := hide hb; have HBL2 := hide hbl; clear hb hbl)
        go_meet
        exact ⟨hide (by rw [HS.out, toList_append]; exact HB2.out), hide (HBL.out.trans HBL2.out)⟩
    case rest =>
      clear HB HBL c0 c1 c2 c3 c4 c5 c6 c7 c8 hgx z0 HD
      obtain ⟨HB, HBL⟩ := hcut
      obtain ⟨c0, c1, c2, c3, c4, c5, c6, c7, c8⟩ := HCS.out.below HBL.out hrg
      have hgx := Nat.le_trans hgle HBL.out.size
      have z := HG.out.z1
      have HDT := hide (fun w' hb => dayText_any r.f w' HG.out.f.1 HG.out.f.2 (HPW.out w' hb))
      have hx := dayB_size r.f
      have HS2 := hide (show r.s2 = r.s1 ++ ((⟨#[32, 102, 114, 111, 109, 32]⟩ : ByteArray) ++ dayB r.f) from rfl)
      generalize dayB r.f = X at *
      have h6 : (⟨#[32, 102, 114, 111, 109, 32]⟩ : ByteArray).size = 6 := rfl
      have hx2 : (X.size : Int) ≤ 10 := by omega
      clear hx
      go_upto_if 39 with (first
        | (go_at_call 26; refine (Tryd.bldWrite g r.s1.data.toList _ _ (by repeat (first | exact HB.out | refine Bld.drew ?_ | refine Bld.plus ?_ | refine Bld.alloc ?_ _)) (by rw [str_len, ByteArray.size_append]; omega) (by first | exact hgx | (simp only [plus_size]; omega))).mono ?_; rintro e w' ⟨rfl, hb, hbl⟩; have HB2 := hide hb; have HBL2 := hide (HBL.out.trans ((Below.mono (by repeat (first | exact Below.refl _ _ | refine bl_plus ?_ | refine bl_alloc ?_ _ | refine bl_drew ?_)) hgx).trans hbl)); clear hb hbl; clear c0 c1 c2 c3 c4 c5 c6 c7 c8; obtain ⟨c0, c1, c2, c3, c4, c5, c6, c7, c8⟩ := HCS.out.below HBL2.out hrg; have hgx2 := Nat.le_trans hgle HBL2.out.size)
        | (go_at_call 24; refine (HDT.out _ HBL.out).mono ?_; rintro e w' ⟨rfl, hbl⟩; obtain ⟨os1, n1, rfl⟩ := below_plus hbl; clear hbl))
      have hb2 := HB2.out
      rw [← toList_append, ← HS2.out] at hb2
      clear HB HBL HB2 hgx HS2 HDT z h6 hx2
      have HB := hide hb2
      have HBL := HBL2
      have hgx := hgx2
      clear hb2 HBL2 hgx2
      generalize hd : decide (0 ≤ r.t) = bd
      have HD := hide hd
      clear hd
      have z := HG.out.z2
      go_cut [] from 40 to 45 (fun wx => Hid (Bld wx g r.s3.data.toList) ∧ Hid (Below g W wx))
      case first =>
        by_cases h0 : 0 ≤ r.t
        · obtain rfl : bd = true := by rw [← HD.out]; exact decide_eq_true h0
          have HS := hide (show r.s3 = r.s2 ++ ((⟨#[32, 117, 110, 116, 105, 108, 32]⟩ : ByteArray) ++ dayB r.t) from if_pos h0)
          have HDT := hide (fun w' hb => dayText_any r.t w' h0 HG.out.t.2 (HPW.out w' hb))
          have hx := dayB_size r.t
          generalize dayB r.t = Y at *
          have h7' : (⟨#[32, 117, 110, 116, 105, 108, 32]⟩ : ByteArray).size = 7 := rfl
          have hx2 : (Y.size : Int) ≤ 10 := by omega
          clear HD h0 hx
          go_wp2_with (first
            | (go_at_call 26; refine (Tryd.bldWrite g r.s2.data.toList _ _ (by repeat (first | exact HB.out | refine Bld.drew ?_ | refine Bld.plus ?_ | refine Bld.alloc ?_ _)) (by rw [str_len, ByteArray.size_append]; omega) (by first | exact hgx | (simp only [plus_size]; omega))).mono ?_; rintro e w' ⟨rfl, hb, hbl⟩; have HB2 := hide hb; have HBL2 := hide (HBL.out.trans ((Below.mono (by repeat (first | exact Below.refl _ _ | refine bl_plus ?_ | refine bl_alloc ?_ _ | refine bl_drew ?_)) hgx).trans hbl)); clear hb hbl)
            | (go_at_call 24; refine (HDT.out _ HBL.out).mono ?_; rintro e w' ⟨rfl, hbl⟩; obtain ⟨os1, n1, rfl⟩ := below_plus hbl; clear hbl))
          go_meet
          exact ⟨hide (by rw [HS.out, toList_append]; exact HB2.out), HBL2⟩
        · obtain rfl : bd = false := by rw [← HD.out]; exact decide_eq_false h0
          have HS := hide (show r.s3 = r.s2 from if_neg h0)
          clear HD h0
          go_wp2
          go_meet
          exact ⟨hide (by rw [HS.out]; exact HB.out), HBL⟩
      case rest =>
        clear HB HBL c0 c1 c2 c3 c4 c5 c6 c7 c8 hgx z HD
        obtain ⟨HB, HBL⟩ := hcut
        obtain ⟨c0, c1, c2, c3, c4, c5, c6, c7, c8⟩ := HCS.out.below HBL.out hrg
        have hgx := Nat.le_trans hgle HBL.out.size
        have z := HG.out.z3
        go_upto_if 48 with fail
        generalize hd : decide (0 < r.c) = bd
        have HD := hide hd
        clear hd
        go_cut [] from 49 to 53 (fun wx => Hid (Bld wx g r.s4.data.toList) ∧ Hid (Below g W wx))
        case first =>
          by_cases h0 : 0 < r.c
          · obtain rfl : bd = true := by rw [← HD.out]; exact decide_eq_true h0
            have HS := hide (show r.s4 = r.s3 ++ ((⟨#[32, 116, 105, 109, 101, 115, 32]⟩ : ByteArray) ++ itB r.c) from if_pos h0)
            have HIT := hide (fun w' hb => Tryd.itoa_any r.c (by have := HG.out.c; omega) (by have := HG.out.c; omega) w' (HPW.out w' hb))
            have hits : (⟨(Lib.itoa r.c).toArray⟩ : ByteArray) = itB r.c := rfl
            rw [hits] at HIT
            have hx := itB_size (n := r.c) (by have := HG.out.c; omega) (by have := HG.out.c; omega)
            generalize itB r.c = Y at *
            have h7' : (⟨#[32, 116, 105, 109, 101, 115, 32]⟩ : ByteArray).size = 7 := rfl
            have hx2 : (Y.size : Int) ≤ 21 := by omega
            clear HD h0 hx hits
            go_wp2_with (first
              | (go_at_call 26; refine (Tryd.bldWrite g r.s3.data.toList _ _ (by repeat (first | exact HB.out | refine Bld.drew ?_ | refine Bld.plus ?_ | refine Bld.alloc ?_ _)) (by rw [str_len, ByteArray.size_append]; omega) (by first | exact hgx | (simp only [plus_size]; omega))).mono ?_; rintro e w' ⟨rfl, hb, hbl⟩; have HB2 := hide hb; have HBL2 := hide (HBL.out.trans ((Below.mono (by repeat (first | exact Below.refl _ _ | refine bl_plus ?_ | refine bl_alloc ?_ _ | refine bl_drew ?_)) hgx).trans hbl)); clear hb hbl)
              | (go_at_call 27; refine (HIT.out _ HBL.out).mono ?_; rintro e w' ⟨rfl, os1, n1, rfl⟩))
            go_meet
            exact ⟨hide (by rw [HS.out, toList_append]; exact HB2.out), HBL2⟩
          · obtain rfl : bd = false := by rw [← HD.out]; exact decide_eq_false h0
            have HS := hide (show r.s4 = r.s3 from if_neg h0)
            clear HD h0
            go_wp2
            go_meet
            exact ⟨hide (by rw [HS.out]; exact HB.out), HBL⟩
        case rest =>
          clear HB HBL c0 c1 c2 c3 c4 c5 c6 c7 c8 hgx z HD
          obtain ⟨HB, HBL⟩ := hcut
          obtain ⟨c0, c1, c2, c3, c4, c5, c6, c7, c8⟩ := HCS.out.below HBL.out hrg
          have hgx := Nat.le_trans hgle HBL.out.size
          have z := HG.out.z4
          go_upto_if 57 with fail
          generalize hd : (r.n != 0) = bd
          have HD := hide hd
          clear hd
          go_cut [8] from 58 to 64 (fun s8 wx => s8 = .string r.on ∧ Hid (Bld wx g r.s4.data.toList) ∧ Hid (Below g W wx))
          case first =>
            by_cases h0 : r.n = 0
            · obtain rfl : bd = false := by rw [← HD.out, h0]; rfl
              have HS := hide (show r.on = (⟨#[111, 110]⟩ : ByteArray) from if_neg (by omega))
              clear HD h0
              go_wp2
              go_meet
              exact ⟨by rw [HS.out], HB, HBL⟩
            · obtain rfl : bd = true := by rw [← HD.out]; exact bne_iff_ne.2 h0
              have HS := hide (show r.on = (⟨#[111, 110]⟩ : ByteArray) ++ (((⟨#[32]⟩ : ByteArray) ++ itB r.n) ++ (⟨#[116, 104]⟩ : ByteArray)) from if_pos h0)
              have HIT := hide (fun w' hb => Tryd.itoa_any r.n (by have := HG.out.n; omega) (by have := HG.out.n; omega) w' (HPW.out w' hb))
              have hits : (⟨(Lib.itoa r.n).toArray⟩ : ByteArray) = itB r.n := rfl
              rw [hits] at HIT
              have hx := itB_size (n := r.n) (by have := HG.out.n; omega) (by have := HG.out.n; omega)
              generalize itB r.n = Y at *
              have hx2 : (Y.size : Int) ≤ 21 := by omega
              have hx3 : (((⟨#[32]⟩ : ByteArray) ++ Y).size : Int) ≤ 22 := by rw [ByteArray.size_append]; have : (⟨#[32]⟩ : ByteArray).size = 1 := rfl; omega
              have hx4 : ((((⟨#[32]⟩ : ByteArray) ++ Y) ++ (⟨#[116, 104]⟩ : ByteArray)).size : Int) ≤ 24 := by rw [ByteArray.size_append]; have : (⟨#[116, 104]⟩ : ByteArray).size = 2 := rfl; omega
              clear HD h0 hx hits
              go_wp2_with (go_at_call 27; refine (HIT.out _ HBL.out).mono ?_; rintro e w' ⟨rfl, os1, n1, rfl⟩)
              go_meet
              exact ⟨by rw [HS.out], hide (Bld.plus HB.out), hide (below_plus_g HBL.out hgx)⟩
          case rest =>
            clear HB HBL c0 c1 c2 c3 c4 c5 c6 c7 c8 hgx z HD
            obtain ⟨rfl, HB, HBL⟩ := hcut
            obtain ⟨c0, c1, c2, c3, c4, c5, c6, c7, c8⟩ := HCS.out.below HBL.out hrg
            have hgx := Nat.le_trans hgle HBL.out.size
            go_upto_region 19 with (go_at_call 29; refine (part_any 30 wdayB g r.on r.s4 A a r.wd _ HB.out (HIW.out _ _ h1 _ HBL.out) (intsAt_lt h1 hwg) (by have := HG.out.lw; omega) (by have := HG.out.z4; omega) (by have := HG.out.zon; omega) hgx (writes_wday HG.out.wd_ok g _)).mono ?_; rintro e w' ⟨rfl, hb, hbl, -⟩; have HB2 := hide hb; have HBL2 := hide (HBL.out.trans hbl); clear hb hbl)
            change Hid (Bld _ g r.s5.data.toList) at HB2
            clear HB HBL c0 c1 c2 c3 c4 c5 c6 c7 c8 hgx
            have HB := HB2
            have HBL := HBL2
            clear HB2 HBL2
            obtain ⟨c0, c1, c2, c3, c4, c5, c6, c7, c8⟩ := HCS.out.below HBL.out hrg
            have hgx := Nat.le_trans hgle HBL.out.size
            go_upto_region 20 with (go_at_call 29; refine (part_any 27 itB g wDates r.s5 B b r.da _ HB.out (HIW.out _ _ h2 _ HBL.out) (intsAt_lt h2 hwg) (by have := HG.out.ld; omega) (by have := HG.out.z5; omega) (by decide) hgx (writes_it HG.out.dates_ok g _ (fun w2 hb2 => HPW.out w2 (HBL.out.trans hb2)))).mono ?_; rintro e w' ⟨rfl, hb, hbl, -⟩; have HB2 := hide hb; have HBL2 := hide (HBL.out.trans hbl); clear hb hbl)
            change Hid (Bld _ g r.s6.data.toList) at HB2
            clear HB HBL c0 c1 c2 c3 c4 c5 c6 c7 c8 hgx
            have HB := HB2
            have HBL := HBL2
            clear HB2 HBL2
            obtain ⟨c0, c1, c2, c3, c4, c5, c6, c7, c8⟩ := HCS.out.below HBL.out hrg
            have hgx := Nat.le_trans hgle HBL.out.size
            go_upto_region 21 with (go_at_call 29; refine (part_any 24 dayB g wSkip r.s6 C c r.sk _ HB.out (HIW.out _ _ h3 _ HBL.out) (intsAt_lt h3 hwg) (by have := HG.out.ls; omega) (by have := HG.out.z6; omega) (by decide) hgx (writes_day HG.out.sk_ok g _ (fun w2 hb2 => HPW.out w2 (HBL.out.trans hb2)))).mono ?_; rintro e w' ⟨rfl, hb, hbl, -⟩; have HB2 := hide hb; have HBL2 := hide (HBL.out.trans hbl); clear hb hbl)
            change Hid (Bld _ g r.s7.data.toList) at HB2
            clear HB HBL c0 c1 c2 c3 c4 c5 c6 c7 c8 hgx
            have HB := HB2
            have HBL := HBL2
            clear HB2 HBL2
            obtain ⟨c0, c1, c2, c3, c4, c5, c6, c7, c8⟩ := HCS.out.below HBL.out hrg
            have hgx := Nat.le_trans hgle HBL.out.size
            have z7 := HG.out.z7
            have hl7 := str_len r.s7
            rcases h7 with h7 | h7
            · have ho := HO.out
              rw [if_neg h7] at ho
              obtain ⟨rfl, rfl⟩ := Prod.mk.inj ho
              clear ho
              have hl8 : ¬ (2000 : Int) < ((r.s7.data.toList.length : Nat) : Int) := by rw [hl7]; omega
              have HL := hide hl7
              clear hl7
              go_wp2_with (first
                | (go_at_call 32; refine (Tryd.bldLen g r.s7.data.toList _ HB.out).mono ?_; rintro e w' ⟨rfl, rfl⟩)
                | (go_at_call 33; refine (Tryd.bldString g r.s7.data.toList _ HB.out hgx).mono ?_; rintro e w' ⟨rfl, hbl⟩; have HBL2 := hide (HBL.out.trans hbl); clear hbl))
              go_ret2
              exact ⟨by simp, HBW.out.trans (HBL2.out.mono hwg)⟩
            · have ho := HO.out
              rw [if_pos h7] at ho
              obtain ⟨rfl, rfl⟩ := Prod.mk.inj ho
              clear ho
              have hl8 : (2000 : Int) < ((r.s7.data.toList.length : Nat) : Int) := by rw [hl7]; omega
              have HL := hide hl7
              clear hl7
              go_wp2_with (go_at_call 32; refine (Tryd.bldLen g r.s7.data.toList _ HB.out).mono ?_; rintro e w' ⟨rfl, rfl⟩)
              go_ret2
              exact ⟨rfl, HBW.out.trans (HBL.out.mono hwg)⟩

end Go.Proofs.YtididkdmbpfjnaaDoor
