/-
  WALK: a rule as text, in the reference.
-/
import Derived.Test.YtididkdmbpfjnaaDoorRlv
import Derived.Test.YtididkdmbpfjnaaDoorRld
namespace Go.Proofs.YtididkdmbpfjnaaDoor
open Go.RowKit Cal

/-- A variable that reads as a row of strings. -/
structure StrsTab (w : World) (gv b o c : Nat) (xs : List ByteArray) : Prop where
  top : w.cell? ⟨gv, 0, none⟩ = some (.slice (some ⟨b, o, none⟩) xs.length c)
  glt : gv < w.heap.size
  lt : b < w.heap.size
  at_ : ∀ k (h : k < xs.length), w.cell? ⟨b, o + k, none⟩ = some (.string xs[k])
theorem StrsTab.below {w w' : World} {gv b o c : Nat} {xs : List ByteArray} (h : StrsTab w gv b o c xs) (hb : Below w.heap.size w w') : StrsTab w' gv b o c xs :=
  ⟨(hb.cell (p := ⟨gv, 0, none⟩) h.glt).trans h.top, Nat.lt_of_lt_of_le h.glt hb.size, Nat.lt_of_lt_of_le h.lt hb.size, fun k hk => (hb.cell (p := ⟨b, o + k, none⟩) h.lt).trans (h.at_ k hk)⟩
def unitsL : List ByteArray := [⟨#[100, 97, 121]⟩, ⟨#[119, 101, 101, 107]⟩, ⟨#[109, 111, 110, 116, 104]⟩, ⟨#[121, 101, 97, 114]⟩]
def wdaysL : List ByteArray := [⟨#[109, 111, 110]⟩, ⟨#[116, 117, 101]⟩, ⟨#[119, 101, 100]⟩, ⟨#[116, 104, 117]⟩, ⟨#[102, 114, 105]⟩, ⟨#[115, 97, 116]⟩, ⟨#[115, 117, 110]⟩]
theorem unitsL_at (u : Int) (h : 1 ≤ u ∧ u ≤ 4) : ∃ k : Nat, ∃ hk : k < unitsL.length, u = k + 1 ∧ unitsL[k] = unitB u := by
  have : u = 1 ∨ u = 2 ∨ u = 3 ∨ u = 4 := by omega
  rcases this with rfl | rfl | rfl | rfl
  · exact ⟨0, by decide, rfl, rfl⟩
  · exact ⟨1, by decide, rfl, rfl⟩
  · exact ⟨2, by decide, rfl, rfl⟩
  · exact ⟨3, by decide, rfl, rfl⟩
theorem wdaysL_at (u : Int) (h : 0 ≤ u ∧ u ≤ 6) : ∃ k : Nat, ∃ hk : k < wdaysL.length, u = k ∧ wdaysL[k] = wdayB u := by
  have : u = 0 ∨ u = 1 ∨ u = 2 ∨ u = 3 ∨ u = 4 ∨ u = 5 ∨ u = 6 := by omega
  rcases this with rfl | rfl | rfl | rfl | rfl | rfl | rfl
  · exact ⟨0, by decide, rfl, rfl⟩
  · exact ⟨1, by decide, rfl, rfl⟩
  · exact ⟨2, by decide, rfl, rfl⟩
  · exact ⟨3, by decide, rfl, rfl⟩
  · exact ⟨4, by decide, rfl, rfl⟩
  · exact ⟨5, by decide, rfl, rfl⟩
  · exact ⟨6, by decide, rfl, rfl⟩
theorem app_lit (a b c : List UInt8) (h : a ++ b = c) (S : ByteArray) : S ++ ((⟨a.toArray⟩ : ByteArray) ++ ⟨b.toArray⟩) = S ++ ⟨c.toArray⟩ := by
  subst h
  have : (⟨a.toArray⟩ : ByteArray) ++ ⟨b.toArray⟩ = ⟨(a ++ b).toArray⟩ := by rw [ByteArray.mk_append_mk]
  rw [this]
theorem wordsB_bd {txt : Int → ByteArray} {l : List Int} {S : ByteArray} {m : Nat} (h : ∀ n ∈ l, (txt n).size ≤ m) (k : Nat) : (wordsB txt S (l.take k)).size ≤ S.size + l.length * (m + 1) := by
  have h1 := wordsB_size (txt := txt) m (l.take k) S (fun n hn => h n (List.mem_of_mem_take hn))
  have h2 : (l.take k).length * (m + 1) ≤ l.length * (m + 1) := Nat.mul_le_mul_right _ (by rw [List.length_take]; omega)
  omega

theorem words_none {txt : Int → ByteArray} {S word : ByteArray} {l : List Int} (h : ¬ 0 < l.length) : wordsB txt (headB S word l) l = S := by
  have : l = [] := List.length_eq_zero_iff.1 (by omega)
  subst this
  rfl
theorem words_some {txt : Int → ByteArray} {S word : ByteArray} {l : List Int} (h : 0 < l.length) : wordsB txt (headB S word l) l = wordsB txt (S ++ ((⟨#[32]⟩ : ByteArray) ++ word)) (l.take l.length) := by
  rw [headB_some h, List.take_length]

set_option maxHeartbeats 800000 in
theorem ruleString_bad (r : Rul) (v : Value) (w : World) (h : RulAt w r v) (he : r.err ≠ 0) :
    Calls Tryd.prog 8 #[v] w (TextR r w) := by
  unfold TextR
  have ho : r.out = (⟨#[]⟩, r.err) := if_pos he
  rw [ho]
  have HC := hide (fun w v h => ruleFault_any r v w h)
  have HA := hide h
  obtain ⟨A, B, C, a, b, c, rfl, h1, h2, h3, h4, h5, h6⟩ := h.ex
  have hne : (r.err != 0) = true := bne_iff_ne.2 he
  clear ho h h1 h2 h3 h4 h5 h6 he
  generalize r.err = E at *
  go_enter Tryd.func8, Tryd.ntmps8
  go_wp2_with (go_at_call 10; refine (HC.out _ _ (HA.out.below (by repeat (first | exact Below.refl _ _ | refine bl_plus ?_ | refine bl_alloc ?_ _ | refine bl_drew ?_)))).mono ?_; rintro e w' ⟨rfl, hbl⟩; obtain ⟨os1, n1, rfl⟩ := below_plus hbl; clear hbl)
  go_ret2
  exact ⟨rfl, (by repeat (first | exact Below.refl _ _ | refine bl_plus ?_ | refine bl_alloc ?_ _ | refine bl_drew ?_))⟩

set_option maxHeartbeats 6400000 in
set_option maxRecDepth 100000 in
theorem ruleString_good (r : Rul) (v : Value) (w : World) (h : RulAt w r v) (he : r.err = 0) (hp : PowTab w) (bu ou cu bs os' cs : Nat) (hU : StrsTab w 0 bu ou cu unitsL) (hS : StrsTab w 1 bs os' cs wdaysL)
    (h7 : ¬ 2000 < r.s7.size ∨ 2000 < r.s7.size) :
    Calls Tryd.prog 8 #[v] w (TextR r w) := by
  unfold TextR
  have hG := Rul.good he
  have ho : r.out = if 2000 < r.s7.size then (⟨#[]⟩, 4) else (r.s7, 0) := if_neg (by omega)
  generalize r.out = O at *
  obtain ⟨O1, O2⟩ := O
  have HO := hide ho
  have hck := fun w v h => ruleFault_any r v w h
  rw [he] at hck
  have HC := hide hck
  have HA := hide h
  obtain ⟨A, B, C, a, b, c, rfl, h1, h2, h3, h4, h5, h6⟩ := h.ex
  have HG := hide hG
  have HU := hide hU
  have HSD := hide hS
  clear ho hck h he h4 h5 h6 hU hS
  have HP := hide hp
  go_enter Tryd.func8, Tryd.ntmps8
  clear hp hG
  go_upto_region 4 with (go_at_call 10; refine (HC.out _ _ (HA.out.below (by repeat (first | exact Below.refl _ _ | refine bl_plus ?_ | refine bl_alloc ?_ _ | refine bl_drew ?_)))).mono ?_; rintro e w' ⟨rfl, hbl⟩; obtain ⟨os1, n1, rfl⟩ := below_plus hbl; clear hbl)
  have hcs : RCells (plus (w.alloc (.cells #[.int .i64 r.u, .int .i64 r.e, .int .i64 r.f, .int .i64 r.t, .int .i64 r.c, .slice A r.wd.length a, .slice B r.da.length b, .int .i64 r.n, .slice C r.sk.length c] 24)) os1 n1) w.heap.size r A B C a b c := by
    have h := (Blk.new w 24 #[.int .i64 r.u, .int .i64 r.e, .int .i64 r.f, .int .i64 r.t, .int .i64 r.c, .slice A r.wd.length a, .slice B r.da.length b, .int .i64 r.n, .slice C r.sk.length c]).plus (os := os1) (n := n1)
    exact ⟨h.cell 0, h.cell 1, h.cell 2, h.cell 3, h.cell 4, h.cell 5, h.cell 6, h.cell 7, h.cell 8⟩
  have hbw : Below w.heap.size w (plus (w.alloc (.cells #[.int .i64 r.u, .int .i64 r.e, .int .i64 r.f, .int .i64 r.t, .int .i64 r.c, .slice A r.wd.length a, .slice B r.da.length b, .int .i64 r.n, .slice C r.sk.length c] 24)) os1 n1) := (by repeat (first | exact Below.refl _ _ | refine bl_plus ?_ | refine bl_alloc ?_ _ | refine bl_drew ?_))
  have hrg : w.heap.size < (plus (w.alloc (.cells #[.int .i64 r.u, .int .i64 r.e, .int .i64 r.f, .int .i64 r.t, .int .i64 r.c, .slice A r.wd.length a, .slice B r.da.length b, .int .i64 r.n, .slice C r.sk.length c] 24)) os1 n1).heap.size := by rw [plus_size, World.size_alloc]; omega
  generalize (plus (w.alloc (.cells #[.int .i64 r.u, .int .i64 r.e, .int .i64 r.f, .int .i64 r.t, .int .i64 r.c, .slice A r.wd.length a, .slice B r.da.length b, .int .i64 r.n, .slice C r.sk.length c] 24)) os1 n1) = W at *
  have HPW := hide (fun w' (hb : Below W.heap.size W w') => powTab_below HP.out (hbw.trans (hb.mono hbw.size)))
  have hU := HU.out.below hbw
  have hS := HSD.out.below hbw
  obtain ⟨gU1, gU2, gU3, gU4⟩ := hU
  obtain ⟨gS1, gS2, gS3, gS4⟩ := hS
  obtain ⟨k, hk4, hku, hkU⟩ := unitsL_at r.u HG.out.u
  have uc := gU4 k hk4
  rw [hkU] at uc
  have hk4' : k < 4 := hk4
  obtain ⟨c0, c1, c2, c3, c4, c5, c6, c7, c8⟩ := hcs
  have HS4 := hide gS4
  have HI1 := hide (h1.below hbw)
  have HI2 := hide (h2.below hbw)
  have HI3 := hide (h3.below hbw)
  have HBW := hide hbw
  clear h1 h2 h3 hbw gU4 gS4 HP HC HA HU HSD
  have eU : (unitsL.length : Nat) = 4 := rfl
  have eS : (wdaysL.length : Nat) = 7 := rfl
  rw [eU] at gU1
  rw [eS] at gS1
  clear eU eS hkU hk4
  have HS0 := hide (show r.s0 = (((⟨#[101, 118, 101, 114, 121, 32]⟩ : ByteArray) ++ itB r.e) ++ (⟨#[32]⟩ : ByteArray)) ++ unitB r.u from rfl)
  have HIT := hide (fun w' hb => Tryd.itoa_any r.e (by have := HG.out.e; omega) (by have := HG.out.e; omega) w' (HPW.out w' hb))
  have hits : (⟨(Lib.itoa r.e).toArray⟩ : ByteArray) = itB r.e := rfl
  rw [hits] at HIT
  have ze := itB_size (n := r.e) (by have := HG.out.e; omega) (by have := HG.out.e; omega)
  have zu := unitB_size r.u
  clear hits
  rw [hku] at c0
  have HKU := hide hku
  clear hku
  go_cut [5] from 17 to 28 (fun s5 wx => s5 = .string r.s0 ∧ ∃ os n, wx = plus W os n)
  case first =>
    generalize unitB r.u = U at *
    generalize itB r.e = I at *
    have p1 : ¬ (9223372036854775807 < 6 + I.size) := by omega
    have p2 : ¬ (9223372036854775807 ≤ 6 + I.size) := by omega
    have p2b : 6 + I.size ≤ 9223372036854775806 := by omega
    have p2c : 6 + I.size < 9223372036854775807 := by omega
    have p2d : ¬ (9223372036854775806 < 6 + I.size) := by omega
    have p3 : ¬ (9223372036854775807 < 6 + I.size + 1 + U.size) := by omega
    have hwk : IntKind.i64.wrap (k : Int) = (k : Int) := by rw [IntKind.wrap_i64]; omega
    have k0' : (0 : Int) ≤ (k : Int) := by omega
    have k1' : (k : Int) < 4 := by omega
    have ze' : (I.size : Int) ≤ 21 := by omega
    have zu' : (U.size : Int) ≤ 5 := by omega
    clear ze zu
    go_region_with ((go_at_call 27; refine (HIT.out _ (by repeat (first | exact Below.refl _ _ | refine bl_plus ?_ | refine bl_alloc ?_ _ | refine bl_drew ?_))).mono ?_; rintro e w' ⟨rfl, os2, n2, rfl⟩))
    all_goals
      go_wp2
      go_meet
      exact ⟨by rw [HS0.out], below_plus (by repeat (first | exact Below.refl _ _ | refine bl_plus ?_ | refine bl_alloc ?_ _ | refine bl_drew ?_))⟩
  case rest =>
    clear HS0 HIT uc HKU ze zu hk4' gU1 gU2 gU3
    obtain ⟨rfl, os0, n0, rfl⟩ := hcut
    have c0' := c0
    have z0 := HG.out.z0
    have y0 : (r.s0.size : Int) ≤ 33 := by omega
    go_upto_if 31 with fail
    generalize hd : (r.e != 1) = bd
    have HD := hide hd
    clear hd
    go_cut [5] from 32 to 33 (fun s5 wx => s5 = .string r.s1 ∧ ∃ os n, wx = plus W os n)
    case first =>
      by_cases h0 : r.e = 1
      · obtain rfl : bd = false := by rw [← HD.out, h0]; rfl
        have HS := hide (show r.s1 = r.s0 from if_neg (by omega))
        clear HD h0
        go_wp2
        go_meet
        exact ⟨by rw [HS.out], below_plus (by repeat (first | exact Below.refl _ _ | refine bl_plus ?_ | refine bl_alloc ?_ _ | refine bl_drew ?_))⟩
      · obtain rfl : bd = true := by rw [← HD.out]; exact bne_iff_ne.2 h0
        have HS := hide (show r.s1 = r.s0 ++ (⟨#[115]⟩ : ByteArray) from if_pos h0)
        clear HD h0
        go_wp2
        go_meet
        exact ⟨by rw [HS.out], below_plus (by repeat (first | exact Below.refl _ _ | refine bl_plus ?_ | refine bl_alloc ?_ _ | refine bl_drew ?_))⟩
    case rest =>
      clear HD y0 z0
      obtain ⟨rfl, os1, n1, rfl⟩ := hcut
      have z1 := HG.out.z1
      have y1 : (r.s1.size : Int) ≤ 34 := by omega
      have HDT := hide (fun w' => dateString_any r.f w' HG.out.f.1 HG.out.f.2)
      have hx := dayB_size r.f
      have HS2 := hide (show r.s2 = r.s1 ++ ((⟨#[32, 102, 114, 111, 109, 32]⟩ : ByteArray) ++ dayB r.f) from rfl)
      have hdb : dateS (parts r.f) = dayB r.f := rfl
      rw [hdb] at HDT
      clear hdb
      generalize dayB r.f = X at *
      have hx2 : (X.size : Int) ≤ 10 := by omega
      have hx3 : (((⟨#[32, 102, 114, 111, 109, 32]⟩ : ByteArray) ++ X).size : Int) ≤ 16 := by rw [ByteArray.size_append]; have : (⟨#[32, 102, 114, 111, 109, 32]⟩ : ByteArray).size = 6 := rfl; omega
      clear hx
      go_upto_if 42 with (go_at_call 34; refine (HDT.out _).mono ?_; rintro e w' ⟨rfl, hbl⟩; obtain ⟨os2, n2, rfl⟩ := below_plus hbl; clear hbl)
      rw [← HS2.out]
      clear HS2 HDT hx2 hx3 y1 z1
      have z2 := HG.out.z2
      have y2 : (r.s2.size : Int) ≤ 50 := by omega
      generalize hd : decide (0 ≤ r.t) = bd
      have HD := hide hd
      clear hd
      go_cut [5] from 43 to 48 (fun s5 wx => s5 = .string r.s3 ∧ ∃ os n, wx = plus W os n)
      case first =>
        by_cases h0 : 0 ≤ r.t
        · obtain rfl : bd = true := by rw [← HD.out]; exact decide_eq_true h0
          have HS := hide (show r.s3 = r.s2 ++ ((⟨#[32, 117, 110, 116, 105, 108, 32]⟩ : ByteArray) ++ dayB r.t) from if_pos h0)
          have HDT := hide (fun w' => dateString_any r.t w' h0 HG.out.t.2)
          have hx := dayB_size r.t
          have hdb : dateS (parts r.t) = dayB r.t := rfl
          rw [hdb] at HDT
          clear hdb
          generalize dayB r.t = Y at *
          have hx2 : (Y.size : Int) ≤ 10 := by omega
          have hx3 : (((⟨#[32, 117, 110, 116, 105, 108, 32]⟩ : ByteArray) ++ Y).size : Int) ≤ 17 := by rw [ByteArray.size_append]; have : (⟨#[32, 117, 110, 116, 105, 108, 32]⟩ : ByteArray).size = 7 := rfl; omega
          clear HD h0 hx
          go_wp2_with (go_at_call 34; refine (HDT.out _).mono ?_; rintro e w' ⟨rfl, hbl⟩; obtain ⟨os3, n3, rfl⟩ := below_plus hbl; clear hbl)
          go_meet
          exact ⟨by rw [HS.out], below_plus (by repeat (first | exact Below.refl _ _ | refine bl_plus ?_ | refine bl_alloc ?_ _ | refine bl_drew ?_))⟩
        · obtain rfl : bd = false := by rw [← HD.out]; exact decide_eq_false h0
          have HS := hide (show r.s3 = r.s2 from if_neg h0)
          clear HD h0
          go_wp2
          go_meet
          exact ⟨by rw [HS.out], below_plus (by repeat (first | exact Below.refl _ _ | refine bl_plus ?_ | refine bl_alloc ?_ _ | refine bl_drew ?_))⟩
      case rest =>
        clear HD y2 z2
        obtain ⟨rfl, os3, n3, rfl⟩ := hcut
        have z3 := HG.out.z3
        have y3 : (r.s3.size : Int) ≤ 67 := by omega
        go_upto_if 51 with fail
        generalize hd : decide (0 < r.c) = bd
        have HD := hide hd
        clear hd
        go_cut [5] from 52 to 57 (fun s5 wx => s5 = .string r.s4 ∧ ∃ os n, wx = plus W os n)
        case first =>
          by_cases h0 : 0 < r.c
          · obtain rfl : bd = true := by rw [← HD.out]; exact decide_eq_true h0
            have HS := hide (show r.s4 = r.s3 ++ ((⟨#[32, 116, 105, 109, 101, 115, 32]⟩ : ByteArray) ++ itB r.c) from if_pos h0)
            have HIT := hide (fun w' hb => Tryd.itoa_any r.c (by have := HG.out.c; omega) (by have := HG.out.c; omega) w' (HPW.out w' hb))
            have hits : (⟨(Lib.itoa r.c).toArray⟩ : ByteArray) = itB r.c := rfl
            rw [hits] at HIT
            have hx := itB_size (n := r.c) (by have := HG.out.c; omega) (by have := HG.out.c; omega)
            generalize itB r.c = Y at *
            have hx2 : (Y.size : Int) ≤ 21 := by omega
            have hx3 : (((⟨#[32, 116, 105, 109, 101, 115, 32]⟩ : ByteArray) ++ Y).size : Int) ≤ 28 := by rw [ByteArray.size_append]; have : (⟨#[32, 116, 105, 109, 101, 115, 32]⟩ : ByteArray).size = 7 := rfl; omega
            clear HD h0 hx hits
            go_wp2_with (go_at_call 27; refine (HIT.out _ (by repeat (first | exact Below.refl _ _ | refine bl_plus ?_ | refine bl_alloc ?_ _ | refine bl_drew ?_))).mono ?_; rintro e w' ⟨rfl, os4, n4, rfl⟩)
            go_meet
            exact ⟨by rw [HS.out], below_plus (by repeat (first | exact Below.refl _ _ | refine bl_plus ?_ | refine bl_alloc ?_ _ | refine bl_drew ?_))⟩
          · obtain rfl : bd = false := by rw [← HD.out]; exact decide_eq_false h0
            have HS := hide (show r.s4 = r.s3 from if_neg h0)
            clear HD h0
            go_wp2
            go_meet
            exact ⟨by rw [HS.out], below_plus (by repeat (first | exact Below.refl _ _ | refine bl_plus ?_ | refine bl_alloc ?_ _ | refine bl_drew ?_))⟩
        case rest =>
          clear HD y3 z3
          obtain ⟨rfl, os4, n4, rfl⟩ := hcut
          have z4 := HG.out.z4
          have y4 : (r.s4.size : Int) ≤ 95 := by omega
          go_upto_if 61 with fail
          generalize hd : decide (0 < r.wd.length) = bd
          have HD := hide hd
          clear hd
          go_cut [5, 7] from 62 to 88 (fun s5 s7 wx => s5 = .string r.s5 ∧ ∃ os n, wx = plus W os n)
          case first =>
            by_cases h0 : 0 < r.wd.length
            · obtain rfl : bd = true := by rw [← HD.out]; exact decide_eq_true h0
              have i1 : (0 : Int) < (r.wd.length : Int) := by omega
              clear HD
              go_upto_if 66 with fail
              generalize hd2 : (r.n != 0) = bn
              have HD2 := hide hd2
              clear hd2
              have on0 : ((r.s4 ++ (⟨#[32, 111, 110]⟩ : ByteArray)).size : Int) ≤ 98 := by rw [ByteArray.size_append]; have : (⟨#[32, 111, 110]⟩ : ByteArray).size = 3 := rfl; omega
              go_cut [5] from 67 to 73 (fun s5 wx => s5 = .string (r.s4 ++ ((⟨#[32]⟩ : ByteArray) ++ r.on)) ∧ ∃ os n, wx = plus W os n)
              case first =>
                by_cases h1 : r.n = 0
                · obtain rfl : bn = false := by rw [← HD2.out, h1]; rfl
                  have HS := hide (show r.s4 ++ ((⟨#[32]⟩ : ByteArray) ++ r.on) = r.s4 ++ (⟨#[32, 111, 110]⟩ : ByteArray) by rw [show r.on = wOn from if_neg (by omega)]; exact app_lit [32] [111, 110] _ rfl _)
                  clear HD2 h1
                  go_wp2
                  go_meet
                  exact ⟨by rw [HS.out], below_plus (by repeat (first | exact Below.refl _ _ | refine bl_plus ?_ | refine bl_alloc ?_ _ | refine bl_drew ?_))⟩
                · obtain rfl : bn = true := by rw [← HD2.out]; exact bne_iff_ne.2 h1
                  have HS := hide (show r.s4 ++ ((⟨#[32]⟩ : ByteArray) ++ r.on) = (r.s4 ++ (⟨#[32, 111, 110]⟩ : ByteArray)) ++ (((⟨#[32]⟩ : ByteArray) ++ itB r.n) ++ (⟨#[116, 104]⟩ : ByteArray)) by
                    rw [show r.on = wOn ++ (((⟨#[32]⟩ : ByteArray) ++ itB r.n) ++ wTh) from if_pos h1, show (⟨#[32, 111, 110]⟩ : ByteArray) = (⟨#[32]⟩ : ByteArray) ++ wOn from rfl]; simp only [ByteArray.append_assoc]; rfl)
                  have HIT := hide (fun w' hb => Tryd.itoa_any r.n (by have := HG.out.n; omega) (by have := HG.out.n; omega) w' (HPW.out w' hb))
                  have hits : (⟨(Lib.itoa r.n).toArray⟩ : ByteArray) = itB r.n := rfl
                  rw [hits] at HIT
                  have hx := itB_size (n := r.n) (by have := HG.out.n; omega) (by have := HG.out.n; omega)
                  generalize itB r.n = Y at *
                  have hx2 : (Y.size : Int) ≤ 21 := by omega
                  have hx3 : (((⟨#[32]⟩ : ByteArray) ++ Y).size : Int) ≤ 22 := by rw [ByteArray.size_append]; have : (⟨#[32]⟩ : ByteArray).size = 1 := rfl; omega
                  have hx4 : ((((⟨#[32]⟩ : ByteArray) ++ Y) ++ (⟨#[116, 104]⟩ : ByteArray)).size : Int) ≤ 24 := by rw [ByteArray.size_append]; have : (⟨#[116, 104]⟩ : ByteArray).size = 2 := rfl; omega
                  clear HD2 h1 hx hits
                  go_wp2_with (go_at_call 27; refine (HIT.out _ (by repeat (first | exact Below.refl _ _ | refine bl_plus ?_ | refine bl_alloc ?_ _ | refine bl_drew ?_))).mono ?_; rintro e w' ⟨rfl, os5, n5, rfl⟩)
                  go_meet
                  exact ⟨by rw [HS.out], below_plus (by repeat (first | exact Below.refl _ _ | refine bl_plus ?_ | refine bl_alloc ?_ _ | refine bl_drew ?_))⟩
              case rest =>
                clear HD2 on0
                obtain ⟨rfl, os6, n6, rfl⟩ := hcut
                go_wp2
                have HEN := hide (words_some (txt := wdayB) (S := r.s4) (word := r.on) h0)
                have HST := hide (fun k (h : k < r.wd.length) => wordsB_succ (txt := wdayB) (S := r.s4 ++ ((⟨#[32]⟩ : ByteArray) ++ r.on)) (l := r.wd) h)
                have hlx : (r.s4 ++ ((⟨#[32]⟩ : ByteArray) ++ r.on)).size ≤ 127 := by rw [ByteArray.size_append, ByteArray.size_append]; have e1 : (⟨#[32]⟩ : ByteArray).size = 1 := rfl; have e2 := HG.out.zon; omega
                have HBD := hide (fun k => wordsB_bd (txt := wdayB) (l := r.wd) (S := r.s4 ++ ((⟨#[32]⟩ : ByteArray) ++ r.on)) (m := 5) (fun n _ => wdayB_size n) k)
                go_loopw [5, 77] (fun v i wr => ∃ (k : Nat) (os : Array Obj) (n : Nat), k ≤ r.wd.length ∧ i = .int .i64 k ∧ v = .string (wordsB wdayB (r.s4 ++ ((⟨#[32]⟩ : ByteArray) ++ r.on)) (r.wd.take k)) ∧ wr = plus W os n) (fun _ i _ => r.wd.length - (intOf i).toNat)
                case atStart => exact ⟨0, os6, n6, Nat.zero_le _, rfl, by rw [List.take_zero]; exact congrArg Value.string (rfl), rfl⟩
                case round =>
                  obtain ⟨k, os, n, hk, rfl, rfl, rfl⟩ := hrel
                  have hbd := HBD.out k
                  by_cases hlt : k < r.wd.length
                  · obtain ⟨b2, off, rfl, hb2, hcell⟩ := HI1.out (by omega)
                    have cx := hcell k hlt
                    have HS := hide (HST.out k hlt)
                    have hmem : r.wd[k] ∈ r.wd := List.getElem_mem hlt
                    obtain ⟨hx0, hx1⟩ := HG.out.wd_ok _ hmem
                    obtain ⟨m, hm, hxm, hxv⟩ := wdaysL_at _ ⟨hx0, hx1⟩
                    have sc := HS4.out m hm
                    rw [hxv] at sc
                    have hY := wdayB_size r.wd[k]
                    have hm7 : m < 7 := hm
                    clear hxv
                    rw [hxm] at cx
                    have HXM := hide hxm
                    clear hxm hx0 hx1 hm
                    generalize wdayB r.wd[k] = Y at *
                    have hY2 : (Y.size : Int) ≤ 5 := by omega
                    clear hY
                    generalize wordsB wdayB (r.s4 ++ ((⟨#[32]⟩ : ByteArray) ++ r.on)) (r.wd.take k) = T at *
                    have hlz := HG.out.lw
                    have hT : (T.size : Int) ≤ 6000 := by omega
                    have hY3 : (((⟨#[32]⟩ : ByteArray) ++ Y).size : Int) ≤ 31 := by rw [ByteArray.size_append]; have : (⟨#[32]⟩ : ByteArray).size = 1 := rfl; omega
                    clear hbd hcell hmem hlx HBD HST
                    go_wp2
                    go_roundw
                    case rel => exact ⟨k + 1, _, _, hlt, by go_num, by rw [HS.out], by first | rfl | (rw [plus_plus])⟩
                    case measure => simp [intOf]; omega
                  · have hkl : k = r.wd.length := by omega
                    subst hkl
                    have HEQ := hide (show r.s5 = wordsB wdayB (r.s4 ++ ((⟨#[32]⟩ : ByteArray) ++ r.on)) (r.wd.take r.wd.length) from HEN.out)
                    clear hbd hlx HBD HST HEN hlt
                    generalize wordsB wdayB (r.s4 ++ ((⟨#[32]⟩ : ByteArray) ++ r.on)) (r.wd.take r.wd.length) = T at *
                    go_wp2
                    go_meet
                    exact ⟨by rw [HEQ.out], below_plus (by repeat (first | exact Below.refl _ _ | refine bl_plus ?_ | refine bl_alloc ?_ _ | refine bl_drew ?_))⟩
            · obtain rfl : bd = false := by rw [← HD.out]; exact decide_eq_false h0
              have HS := hide (show r.s5 = r.s4 from words_none h0)
              clear HD h0
              go_wp2
              go_meet
              exact ⟨by rw [HS.out], below_plus (by repeat (first | exact Below.refl _ _ | refine bl_plus ?_ | refine bl_alloc ?_ _ | refine bl_drew ?_))⟩
          case rest =>
            clear HD y4 z4
            obtain ⟨rfl, os5, n5, rfl⟩ := hcut
            have z5 := HG.out.z5
            have y5 : (r.s5.size : Int) ≤ 350 := by omega
            go_upto_if 92 with fail
            generalize hd : decide (0 < r.da.length) = bd
            have HD := hide hd
            clear hd
            go_cut [5, 9] from 93 to 107 (fun s5 s7 wx => s5 = .string r.s6 ∧ ∃ os n, wx = plus W os n)
            case first =>
              by_cases h0 : 0 < r.da.length
              · obtain rfl : bd = true := by rw [← HD.out]; exact decide_eq_true h0
                have i1 : (0 : Int) < (r.da.length : Int) := by omega
                clear HD
                go_wp2
                have HEN := hide (words_some (txt := itB) (S := r.s5) (word := wDates) h0)
                have HST := hide (fun k (h : k < r.da.length) => wordsB_succ (txt := itB) (S := r.s5 ++ ((⟨#[32]⟩ : ByteArray) ++ wDates)) (l := r.da) h)
                have hlx : (r.s5 ++ ((⟨#[32]⟩ : ByteArray) ++ wDates)).size ≤ 382 := by rw [ByteArray.size_append, ByteArray.size_append]; have e1 : (⟨#[32]⟩ : ByteArray).size = 1 := rfl; have e2 := (show wDates.size ≤ 5 by decide); omega
                have HBD := hide (fun k => wordsB_bd (txt := itB) (l := r.da) (S := r.s5 ++ ((⟨#[32]⟩ : ByteArray) ++ wDates)) (m := 21) (fun n hn => by have := HG.out.dates_ok n hn; exact itB_size (by omega) (by omega)) k)
                go_loopw [5, 98] (fun v i wr => ∃ (k : Nat) (os : Array Obj) (n : Nat), k ≤ r.da.length ∧ i = .int .i64 k ∧ v = .string (wordsB itB (r.s5 ++ ((⟨#[32]⟩ : ByteArray) ++ wDates)) (r.da.take k)) ∧ wr = plus W os n) (fun _ i _ => r.da.length - (intOf i).toNat)
                case atStart => exact ⟨0, os5, n5, Nat.zero_le _, rfl, by rw [List.take_zero]; exact congrArg Value.string ((app_lit [32] [100, 97, 116, 101, 115] _ rfl _).symm), rfl⟩
                case round =>
                  obtain ⟨k, os, n, hk, rfl, rfl, rfl⟩ := hrel
                  have hbd := HBD.out k
                  by_cases hlt : k < r.da.length
                  · obtain ⟨b2, off, rfl, hb2, hcell⟩ := HI2.out (by omega)
                    have cx := hcell k hlt
                    have HS := hide (HST.out k hlt)
                    have hmem : r.da[k] ∈ r.da := List.getElem_mem hlt
                    obtain ⟨hx0, hx1⟩ := HG.out.dates_ok _ hmem
                    have HIT := hide (fun w' hb => Tryd.itoa_any r.da[k] (by omega) (by omega) w' (HPW.out w' hb))
                    have hits : (⟨(Lib.itoa r.da[k]).toArray⟩ : ByteArray) = itB r.da[k] := rfl
                    rw [hits] at HIT
                    have hY := itB_size (n := r.da[k]) (by omega) (by omega)
                    clear hits hx0 hx1
                    generalize itB r.da[k] = Y at *
                    generalize r.da[k] = x at *
                    have hY2 : (Y.size : Int) ≤ 21 := by omega
                    clear hY
                    generalize wordsB itB (r.s5 ++ ((⟨#[32]⟩ : ByteArray) ++ wDates)) (r.da.take k) = T at *
                    have hlz := HG.out.ld
                    have hT : (T.size : Int) ≤ 6000 := by omega
                    have hY3 : (((⟨#[32]⟩ : ByteArray) ++ Y).size : Int) ≤ 31 := by rw [ByteArray.size_append]; have : (⟨#[32]⟩ : ByteArray).size = 1 := rfl; omega
                    clear hbd hcell hmem hlx HBD HST
                    go_wp2_with (go_at_call 27; refine (HIT.out _ (by repeat (first | exact Below.refl _ _ | refine bl_plus ?_ | refine bl_alloc ?_ _ | refine bl_drew ?_))).mono ?_; rintro e w' ⟨rfl, os7, n7, rfl⟩)
                    go_roundw
                    case rel => exact ⟨k + 1, _, _, hlt, by go_num, by rw [HS.out], by first | rfl | (rw [plus_plus])⟩
                    case measure => simp [intOf]; omega
                  · have hkl : k = r.da.length := by omega
                    subst hkl
                    have HEQ := hide (show r.s6 = wordsB itB (r.s5 ++ ((⟨#[32]⟩ : ByteArray) ++ wDates)) (r.da.take r.da.length) from HEN.out)
                    clear hbd hlx HBD HST HEN hlt
                    generalize wordsB itB (r.s5 ++ ((⟨#[32]⟩ : ByteArray) ++ wDates)) (r.da.take r.da.length) = T at *
                    go_wp2
                    go_meet
                    exact ⟨by rw [HEQ.out], below_plus (by repeat (first | exact Below.refl _ _ | refine bl_plus ?_ | refine bl_alloc ?_ _ | refine bl_drew ?_))⟩
              · obtain rfl : bd = false := by rw [← HD.out]; exact decide_eq_false h0
                have HS := hide (show r.s6 = r.s5 from words_none h0)
                clear HD h0
                go_wp2
                go_meet
                exact ⟨by rw [HS.out], below_plus (by repeat (first | exact Below.refl _ _ | refine bl_plus ?_ | refine bl_alloc ?_ _ | refine bl_drew ?_))⟩
            case rest =>
              clear HD y5 z5
              obtain ⟨rfl, os6, n6, rfl⟩ := hcut
              have z6 := HG.out.z6
              have y6 : (r.s6.size : Int) ≤ 2400 := by omega
              go_upto_if 111 with fail
              generalize hd : decide (0 < r.sk.length) = bd
              have HD := hide hd
              clear hd
              go_cut [5, 11] from 112 to 126 (fun s5 s7 wx => s5 = .string r.s7 ∧ ∃ os n, wx = plus W os n)
              case first =>
                by_cases h0 : 0 < r.sk.length
                · obtain rfl : bd = true := by rw [← HD.out]; exact decide_eq_true h0
                  have i1 : (0 : Int) < (r.sk.length : Int) := by omega
                  clear HD
                  go_wp2
                  have HEN := hide (words_some (txt := dayB) (S := r.s6) (word := wSkip) h0)
                  have HST := hide (fun k (h : k < r.sk.length) => wordsB_succ (txt := dayB) (S := r.s6 ++ ((⟨#[32]⟩ : ByteArray) ++ wSkip)) (l := r.sk) h)
                  have hlx : (r.s6 ++ ((⟨#[32]⟩ : ByteArray) ++ wSkip)).size ≤ 2432 := by rw [ByteArray.size_append, ByteArray.size_append]; have e1 : (⟨#[32]⟩ : ByteArray).size = 1 := rfl; have e2 := (show wSkip.size ≤ 5 by decide); omega
                  have HBD := hide (fun k => wordsB_bd (txt := dayB) (l := r.sk) (S := r.s6 ++ ((⟨#[32]⟩ : ByteArray) ++ wSkip)) (m := 10) (fun n hn => by rw [dayB_size]; omega) k)
                  go_loopw [5, 117] (fun v i wr => ∃ (k : Nat) (os : Array Obj) (n : Nat), k ≤ r.sk.length ∧ i = .int .i64 k ∧ v = .string (wordsB dayB (r.s6 ++ ((⟨#[32]⟩ : ByteArray) ++ wSkip)) (r.sk.take k)) ∧ wr = plus W os n) (fun _ i _ => r.sk.length - (intOf i).toNat)
                  case atStart => exact ⟨0, os6, n6, Nat.zero_le _, rfl, by rw [List.take_zero]; exact congrArg Value.string ((app_lit [32] [115, 107, 105, 112] _ rfl _).symm), rfl⟩
                  case round =>
                    obtain ⟨k, os, n, hk, rfl, rfl, rfl⟩ := hrel
                    have hbd := HBD.out k
                    by_cases hlt : k < r.sk.length
                    · obtain ⟨b2, off, rfl, hb2, hcell⟩ := HI3.out (by omega)
                      have cx := hcell k hlt
                      have HS := hide (HST.out k hlt)
                      have hmem : r.sk[k] ∈ r.sk := List.getElem_mem hlt
                      obtain ⟨hx0, hx1⟩ := HG.out.sk_ok _ hmem
                      have HDT := hide (fun w' => dateString_any r.sk[k] w' hx0 hx1)
                      have hdb : dateS (parts r.sk[k]) = dayB r.sk[k] := rfl
                      rw [hdb] at HDT
                      have hY := dayB_size r.sk[k]
                      clear hdb hx0 hx1
                      generalize dayB r.sk[k] = Y at *
                      generalize r.sk[k] = x at *
                      have hY2 : (Y.size : Int) ≤ 10 := by omega
                      clear hY
                      generalize wordsB dayB (r.s6 ++ ((⟨#[32]⟩ : ByteArray) ++ wSkip)) (r.sk.take k) = T at *
                      have hlz := HG.out.ls
                      have hT : (T.size : Int) ≤ 6000 := by omega
                      have hY3 : (((⟨#[32]⟩ : ByteArray) ++ Y).size : Int) ≤ 31 := by rw [ByteArray.size_append]; have : (⟨#[32]⟩ : ByteArray).size = 1 := rfl; omega
                      clear hbd hcell hmem hlx HBD HST
                      go_wp2_with (go_at_call 34; refine (HDT.out _).mono ?_; rintro e w' ⟨rfl, hbl⟩; obtain ⟨os7, n7, rfl⟩ := below_plus hbl; clear hbl)
                      go_roundw
                      case rel => exact ⟨k + 1, _, _, hlt, by go_num, by rw [HS.out], by first | rfl | (rw [plus_plus])⟩
                      case measure => simp [intOf]; omega
                    · have hkl : k = r.sk.length := by omega
                      subst hkl
                      have HEQ := hide (show r.s7 = wordsB dayB (r.s6 ++ ((⟨#[32]⟩ : ByteArray) ++ wSkip)) (r.sk.take r.sk.length) from HEN.out)
                      clear hbd hlx HBD HST HEN hlt
                      generalize wordsB dayB (r.s6 ++ ((⟨#[32]⟩ : ByteArray) ++ wSkip)) (r.sk.take r.sk.length) = T at *
                      go_wp2
                      go_meet
                      exact ⟨by rw [HEQ.out], below_plus (by repeat (first | exact Below.refl _ _ | refine bl_plus ?_ | refine bl_alloc ?_ _ | refine bl_drew ?_))⟩
                · obtain rfl : bd = false := by rw [← HD.out]; exact decide_eq_false h0
                  have HS := hide (show r.s7 = r.s6 from words_none h0)
                  clear HD h0
                  go_wp2
                  go_meet
                  exact ⟨by rw [HS.out], below_plus (by repeat (first | exact Below.refl _ _ | refine bl_plus ?_ | refine bl_alloc ?_ _ | refine bl_drew ?_))⟩
              case rest =>
                clear HD y6 z6
                obtain ⟨rfl, os7, n7, rfl⟩ := hcut
                have z7 := HG.out.z7
                have y7 : (r.s7.size : Int) ≤ 6000 := by omega
                rcases h7 with h7 | h7
                · have ho := HO.out
                  rw [if_neg h7] at ho
                  obtain ⟨rfl, rfl⟩ := Prod.mk.inj ho
                  clear ho
                  have hl8 : ¬ (2000 : Int) < (r.s7.size : Int) := by omega
                  go_wp2
                  go_ret2
                  exact ⟨rfl, HBW.out.trans (Below.mono (by repeat (first | exact Below.refl _ _ | refine bl_plus ?_ | refine bl_alloc ?_ _ | refine bl_drew ?_)) HBW.out.size)⟩
                · have ho := HO.out
                  rw [if_pos h7] at ho
                  obtain ⟨rfl, rfl⟩ := Prod.mk.inj ho
                  clear ho
                  have hl8 : (2000 : Int) < (r.s7.size : Int) := by omega
                  go_wp2
                  go_ret2
                  exact ⟨rfl, HBW.out.trans (Below.mono (by repeat (first | exact Below.refl _ _ | refine bl_plus ?_ | refine bl_alloc ?_ _ | refine bl_drew ?_)) HBW.out.size)⟩


end Go.Proofs.YtididkdmbpfjnaaDoor
