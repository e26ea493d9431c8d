/-
  WALKS: the tokens of a string, in the program.
-/
import Derived.Test.YtioppoaijehicaaGreatDoorSpf
import Derived.Scope
import Derived.Deep.QuietTactic
import Derived.BigQuiet
set_option linter.all false
namespace Go.Proofs.YtioppoaijehicaaGreatDoor
open Go.RowKit

theorem info_sp : (Tryz.prog.info? 90).map (fun i => (i.zero, i.size, i.bytes)) = some (some (.agg #[.int .i64 0, .int .i64 0, .int .i64 0, .string ByteArray.empty, .string ByteArray.empty, .int .i64 0, .bool false]), 7, 72) := by kernel_rfl

/-- A row of spans that the call owns. -/
def RowSp (l : List Sp) (w : World) (e : Ending) (w' : World) : Prop := ∃ A c, e = .returned (.slice A l.length c) ∧ OwnK 7 90 w' w.heap.size (.slice A l.length c) l.length (flatG Sp.vals l) ∧ Below w.heap.size w w'

theorem flatSp_snoc (l : List Sp) (x : Sp) : flatG Sp.vals l ++ [.int .i64 x.kind, .int .i64 x.fr, .int .i64 x.to, .string x.txt, .string x.sho, .int .i64 x.id, .bool x.strong] = flatG Sp.vals (l ++ [x]) := (flatG_snoc l x).symm

theorem ownSp_form {w : World} {base n : Nat} {v : Value} {xs : List Value} (h : OwnK 7 90 w base v n xs) : ∃ A c, v = .slice A n c := by
  obtain ⟨_, A, c, rfl, _⟩ := h
  exact ⟨A, c, rfl⟩

set_option maxHeartbeats 6400000 in
set_option maxRecDepth 100000 in
theorem tokens_any (s : ByteArray) (w : World) (hs : s.size ≤ 900000) :
    Calls Tryz.prog 156 #[.string s] w (RowSp (toksAt s 0) w) := by
  have HPO : Hid (∀ A c n w', n = (toksAt s 0).length → OwnK 7 90 w' w.heap.size (.slice A n c) n (flatG Sp.vals (toksAt s 0)) → Below w.heap.size w w' → RowSp (toksAt s 0) w (.returned (.slice A n c)) w') := hide fun A c n w' hn h1 h2 => by subst hn; exact ⟨A, c, rfl, h1, h2⟩
  generalize RowSp (toksAt s 0) w = PO at *
  have HTK := hide (fun k (hk : k < 6) i (hi : i < s.size) W => token_any k hk s i W hi (by omega))
  have HTS := hide (fun i (hi : i < s.size) => toksAt_cons hi)
  have HTE := hide (toksAt_over (s := s) (Nat.le_refl _))
  have HPI := hide (fun i (hi : i < s.size) => tokP_in hi)
  obtain ⟨iS, hiS, hzS0, hzS1, hzS2⟩ := info_parts info_sp
  have HIS := hide (And.intro hiS (And.intro hzS0 (And.intro hzS1 hzS2)))
  clear hiS hzS0 hzS1 hzS2
  go_enter Tryz.func156, Tryz.ntmps156
  go_wp2
  refine wp_scope_straight ?_
  go_wp2
  apply wp_label
  go_wp2
  go_loopw [3, 4] (fun s3 s4 wr => ∃ (i : Nat) (acc : List Sp) (A : Option Addr) (c : Nat), i ≤ s.size ∧ s3 = .slice A acc.length c ∧ s4 = .int .i64 i ∧ Hid (OwnK 7 90 wr w.heap.size (.slice A acc.length c) acc.length (flatG Sp.vals acc)) ∧ Hid (acc ++ toksAt s i = toksAt s 0) ∧ Hid (acc.length ≤ i) ∧ Hid (Below w.heap.size w wr)) (fun _ s4 _ => s.size - (intOf s4).toNat)
  case atStart => exact ⟨0, [], none, 0, Nat.zero_le _, rfl, rfl, hide OwnK.empty, hide (List.nil_append _), hide (Nat.le_refl _), hide (Below.refl _ _)⟩
  case round =>
    obtain ⟨i, acc, A, c, hi, rfl, rfl, HOW, HAC, HLN, HB⟩ := hrel
    by_cases hlt : i < s.size
    · have i1 : (i : Int) < (s.size : Int) := by omega
      have HTK1 := hide (fun k hk W => HTK.out k hk i hlt W)
      have HNX := hide (show (acc ++ [tokP s i]) ++ toksAt s (tokP s i).to = toksAt s 0 from by rw [List.append_assoc, List.singleton_append, ← HTS.out i hlt]; exact HAC.out)
      have HIN := hide (HPI.out i hlt)
      clear HTK HTS HTE HPI HAC
      obtain ⟨w0, hw0⟩ : ∃ w0 : World, w0 = wr := ⟨_, rfl⟩
      subst hw0
      go_wp2
      go_loopw [3, 4, 12] (fun s3 s4 s12 wr => ∃ k : Nat, k ≤ 6 ∧ s3 = .slice A acc.length c ∧ s4 = .int .i64 i ∧ s12 = .int .i64 k ∧ Hid (∀ j, j < k → tokK s i j = none) ∧ Hid (Below w0.heap.size w0 wr)) (fun _ _ s12 _ => 6 - (intOf s12).toNat)
      case atStart => exact ⟨0, by omega, rfl, rfl, rfl, hide (fun j hj => absurd hj (by omega)), hide (Below.refl _ _)⟩
      case round =>
        obtain ⟨k, hk, rfl, rfl, rfl, HNO, HBK⟩ := hrel
        by_cases hk6 : k < 6
        · have j1 : (k : Int) < 6 := by omega
          have HC := hide (HTK1.out k hk6)
          have HSO := hide (fun x (h : tokK s i k = some x) => tokK_some hk6 HNO.out h)
          have HNE := hide (fun (h : tokK s i k = none) j (hj : j < k + 1) => (if e : j = k then (by subst e; exact h) else HNO.out j (by omega) : tokK s i j = none))
          clear HNO HTK1
          cases hto : tokK s i k with
          | none =>
            have HNO2 := hide (HNE.out hto)
            rw [hto] at HC
            clear HNE HSO hto
            have HC1 := hide (show ∀ W, Calls Tryz.prog 196 #[.int .i64 k, .string s, .int .i64 i] W (fun e w' => e = .returned (.tuple #[.agg #[.int .i64 0, .int .i64 0, .int .i64 0, .string ⟨#[]⟩, .string ⟨#[]⟩, .int .i64 0, .bool false], .bool false]) ∧ Below W.heap.size W w') from fun W => (HC.out W).mono fun e w' h => spOut_lit h)
            clear HC
            go_wp2_with (go_at_call 196; refine (HC1.out _).mono ?_; rintro e w3 ⟨rfl, hb3⟩; have HB3 := hide (below_chainS HBK.out hb3); clear hb3)
            go_roundw
            case rel => exact ⟨k + 1, by omega, rfl, rfl, by go_num, HNO2, hide (below_chainS HB3.out (by repeat (first | with_reducible exact Below.refl _ _ | with_reducible refine bl_plus ?_ | with_reducible refine bl_alloc ?_ _ | with_reducible refine bl_drew ?_ | with_reducible refine bl_drewN ?_ _)))⟩
            case measure => simp [intOf]; omega
          | some x =>
            have hx := HSO.out x hto
            rw [hx] at HNX HIN
            rw [hto] at HC
            clear HNE HSO hto hx
            have hup := HIN.out.up
            have hle := HIN.out.le
            clear HIN
            obtain ⟨xk, xf, xt, xx, xs, xi, xg⟩ := x
            (try simp only at hup hle)
            have HC1 := hide (show ∀ W, Calls Tryz.prog 196 #[.int .i64 k, .string s, .int .i64 i] W (fun e w' => e = .returned (.tuple #[.agg #[.int .i64 xk, .int .i64 (xf : Nat), .int .i64 (xt : Nat), .string xx, .string xs, .int .i64 xi, .bool xg], .bool true]) ∧ Below W.heap.size W w') from fun W => (HC.out W).mono fun e w' h => spOut_lit h)
            clear HC
            go_upto_region 8 with (go_at_call 196; refine (HC1.out _).mono ?_; rintro e w3 ⟨rfl, hb3⟩; have HB3 := hide (below_chainS HBK.out hb3); clear hb3)
            have HX := hide (Blk.new w3 90 #[.int .i64 xk, .int .i64 (xf : Nat), .int .i64 (xt : Nat), .string xx, .string xs, .int .i64 xi, .bool xg])
            have HOW3 := hide (ownK_below HOW.out HB3.out)
            have HNE := hide (show some w3.heap.size ≠ (Value.slice A acc.length c).ownBlock from fun e9 => by have := (HOW3.out.lt _ e9.symm).2; omega)
            have HOW4 := hide (ownK_alloc HOW3.out (.cells #[.int .i64 xk, .int .i64 (xf : Nat), .int .i64 (xt : Nat), .string xx, .string xs, .int .i64 xi, .bool xg] 90))
            have HB4 := hide (bl_alloc (below_chainS HB.out HB3.out) (.cells #[.int .i64 xk, .int .i64 (xf : Nat), .int .i64 (xt : Nat), .string xx, .string xs, .int .i64 xi, .bool xg] 90))
            generalize w3.alloc (.cells #[.int .i64 xk, .int .i64 (xf : Nat), .int .i64 (xt : Nat), .string xx, .string xs, .int .i64 xi, .bool xg] 90) = W4 at *
            generalize w3.heap.size = gX at *
            obtain ⟨x0, x1, x2, x3, x4, x5, x6, -, xl⟩ := HX.out.seven
            clear HOW3 HOW HB3 HB HBK HC1
            go_wp2_with (at_builtin; refine wpList_append_k rfl (.tmp 23) (.tmp 25) rfl rfl Tryz.underlying88 HIS.out.1 HIS.out.2.1 HIS.out.2.2.1 (by decide) rfl (by have := HIS.out.2.2.2; omega) w.heap.size acc.length (.slice A acc.length c) (flatG Sp.vals acc) [.int .i64 xk, .int .i64 (xf : Nat), .int .i64 (xt : Nat), .string xx, .string xs, .int .i64 xi, .bool xg] _ rfl (ownK_alloc HOW4.out _) rfl (by intro u hu; simp only [List.mem_cons, List.not_mem_nil, or_false] at hu; rcases hu with rfl | rfl | rfl | rfl | rfl | rfl | rfl <;> rfl) rfl (newN_cells rfl) (by have := HLN.out; omega) (by simp only [World.size_alloc]; have := HB4.out.size; omega) ?_; intro v8 w8 hown8 hgr8 hdj8; obtain ⟨A8, c8, rfl⟩ := ownSp_form hown8; have HO8 := hide hown8; have HB8 := hide ((bl_alloc HB4.out _).grown hgr8 (by simp only [World.size_alloc]; have := HB4.out.size; omega) (fun k hk => (HOW4.out.lt k hk).1) : Below w.heap.size w w8); have z2 : w8.cell? ⟨gX, 2, none⟩ = some (.int .i64 (xt : Nat)) := ((HX.out.alloc _).grown hgr8 HNE.out).cell 2; have z9 : gX < w8.heap.size := ((HX.out.alloc _).grown hgr8 HNE.out).lt; clear hown8 hgr8 hdj8)
            have hl1 : acc.length + 1 = (acc ++ [(⟨xk, xf, xt, xx, xs, xi, xg⟩ : Sp)]).length := by simp
            rw [flatSp_snoc acc ⟨xk, xf, xt, xx, xs, xi, xg⟩, hl1] at HO8
            rw [hl1]
            go_roundw
            case rel => exact ⟨xt, acc ++ [⟨xk, xf, xt, xx, xs, xi, xg⟩], A8, c8, hle, rfl, rfl, HO8, HNX, hide (by rw [List.length_append]; have := HLN.out; simp only [List.length_cons, List.length_nil]; omega), HB8⟩
            case measure => simp [intOf]; omega
        · obtain rfl : k = 6 := by omega
          have hx := tokK_none HNO.out
          rw [hx] at HNX
          have HOWb := hide (ownK_below HOW.out HBK.out)
          have HBb := hide (below_chainS HB.out HBK.out)
          clear HNO HTK1 HIN hx HOW HB HBK
          have i2 : (i : Int) + 1 ≤ (s.size : Int) := by omega
          go_wp2_with (at_builtin; refine wpList_append_k rfl (.tmp 30) (.tmp 35) rfl rfl Tryz.underlying88 HIS.out.1 HIS.out.2.1 HIS.out.2.2.1 (by decide) rfl (by have := HIS.out.2.2.2; omega) w.heap.size acc.length (.slice A acc.length c) (flatG Sp.vals acc) [.int .i64 1, .int .i64 i, .int .i64 ((i : Int) + 1), .string ⟨#[]⟩, .string ⟨#[]⟩, .int .i64 0, .bool false] _ rfl (ownK_alloc HOWb.out _) rfl (by intro u hu; simp only [List.mem_cons, List.not_mem_nil, or_false] at hu; rcases hu with rfl | rfl | rfl | rfl | rfl | rfl | rfl <;> rfl) rfl (newN_cells rfl) (by have := HLN.out; omega) (by simp only [World.size_alloc]; have := HBb.out.size; omega) ?_; intro v8 w8 hown8 hgr8 hdj8; obtain ⟨A8, c8, rfl⟩ := ownSp_form hown8; have HO8 := hide hown8; have HB8 := hide ((bl_alloc HBb.out _).grown hgr8 (by simp only [World.size_alloc]; have := HBb.out.size; omega) (fun k hk => (HOWb.out.lt k hk).1) : Below w.heap.size w w8); clear hown8 hgr8 hdj8)
          have hl1 : acc.length + 1 = (acc ++ [(⟨1, i, i + 1, ⟨#[]⟩, ⟨#[]⟩, 0, false⟩ : Sp)]).length := by simp
          rw [show (i : Int) + 1 = ((i + 1 : Nat) : Int) by omega, flatSp_snoc acc ⟨1, i, i + 1, ⟨#[]⟩, ⟨#[]⟩, 0, false⟩, hl1] at HO8
          rw [hl1]
          go_wp2
          go_roundw
          case rel => exact ⟨i + 1, acc ++ [⟨1, i, i + 1, ⟨#[]⟩, ⟨#[]⟩, 0, false⟩], A8, c8, by omega, rfl, by go_num, HO8, HNX, hide (by rw [List.length_append]; have := HLN.out; simp only [List.length_cons, List.length_nil]; omega), HB8⟩
          case measure => simp [intOf]; omega
    · obtain rfl : i = s.size := by omega
      have HR := hide (show acc = toksAt s 0 from by have := HAC.out; rwa [HTE.out, List.append_nil] at this)
      have HZ := hide (show PO (.returned (.slice A acc.length c)) wr from by have h9 := HPO.out A c acc.length wr; rw [← HR.out] at h9; exact h9 rfl HOW.out HB.out)
      go_wp2
      first
        | exact HZ.out
        | (go_returns; exact HZ.out)

end Go.Proofs.YtioppoaijehicaaGreatDoor
/-
  WALKS: bold parts of a row of tokens, in place, in the program.
-/
namespace Go.Proofs.YtioppoaijehicaaGreatDoor
open Go.RowKit

section
variable {α : Type} {f : α → List Value} {K : Nat} {t : TypeId} {base g c n : Nat} {w : World} {l : List α}

theorem flatG_set1 (hf : ∀ x, (f x).length = K) : ∀ (l : List α) (j m : Nat) (v : Value) (x : α) (h : j < l.length), m < K → f x = (f l[j]).set m v → (flatG f l).set (j * K + m) v = flatG f (l.set j x)
  | q :: l, 0, m, v, x, _, hm, hx => by
    show (f q ++ flatG f l).set (0 * K + m) v = f x ++ flatG f l
    rw [Nat.zero_mul, Nat.zero_add, List.set_append_left _ _ (by rw [hf]; exact hm), hx]
    rfl
  | q :: l, j + 1, m, v, x, h, hm, hx => by
    show (f q ++ flatG f l).set ((j + 1) * K + m) v = f q ++ flatG f (l.set j x)
    have e : (j + 1) * K + m = (f q).length + (j * K + m) := by rw [hf, Nat.add_mul, Nat.one_mul]; omega
    rw [e, List.set_append_right _ _ (Nat.le_add_right _ _), Nat.add_sub_cancel_left, flatG_set1 hf l j m v x (by simpa using h) hm hx]

theorem OwnK.set1 (hf : ∀ x, (f x).length = K) (h : OwnK K t w base (.slice (some ⟨g, 0, none⟩) l.length c) l.length (flatG f l)) {j m : Nat} {v : Value} {x : α} (hj : j < l.length) (hm : m < K) (hx : f x = (f l[j]).set m v) :
    OwnK K t (w.setCell ⟨g, j * K + m, none⟩ v) base (.slice (some ⟨g, 0, none⟩) l.length c) l.length (flatG f (l.set j x)) := by
  have hb : (j + 1) * K ≤ l.length * K := Nat.mul_le_mul_right _ hj
  rw [Nat.add_mul, Nat.one_mul] at hb
  have h1 := h.overK (j * K + m) [v] (by simp only [List.length_cons, List.length_nil]; omega)
  rw [← flatG_set1 hf l j m v x hj hm hx, List.set_eq_take_append_cons_drop, if_pos (by rw [flatG_len hf]; omega)]
  exact h1

theorem OwnK.thereK (hK : 0 < K) (h : OwnK K t w base (.slice (some ⟨g, 0, none⟩) n c) n (flatG f l)) (hf : ∀ x, (f x).length = K) {k : Nat} (hk : k < n * K) : (w.cell? ⟨g, k, none⟩).isSome = true ∧ w.frozen? ⟨g, k, none⟩ = false := by
  obtain ⟨hl, A', c', hv, k1, k2, k3⟩ := h
  injection hv with e1 _ e3
  subst e1
  rcases k3 with ⟨e, _⟩ | ⟨g', cs, hA, hg, hb, h6, h7⟩
  · cases e
  · injection hA with hA
    injection hA with hA
    subst hA
    have hlt : k < cs.size := by
      have := congrArg List.length h7
      rw [hl, List.length_take, (Array.length_toList : cs.toList.length = cs.size)] at this
      omega
    refine ⟨?_, Go.frozen_of_row w g _ cs _ hb⟩
    rw [cell_of_row w g _ cs _ (0, 0) hb, Array.getElem?_eq_getElem hlt]
    rfl
end

/-- The row, whatever it says by now. -/
structure StS (w : World) (base g c n : Nat) (cur : List Sp) (wr : World) : Prop where
  len : cur.length = n
  own : OwnK 7 90 wr base (.slice (some ⟨g, 0, none⟩) n c) n (flatG Sp.vals cur)
  grown : w.grownBy wr (some g)

theorem StS.set1 {w wr : World} {base g c n : Nat} {cur : List Sp} (h : StS w base g c n cur wr) {j m : Nat} {v : Value} {x : Sp} (hj : j < cur.length) (hm : m < 7) (hx : x.vals = (cur[j].vals).set m v) : StS w base g c n (cur.set j x) (wr.setCell ⟨g, j * 7 + m, none⟩ v) := by
  obtain ⟨h1, h2, h3⟩ := h
  subst h1
  exact ⟨by rw [List.length_set], OwnK.set1 valsSp_len h2 hj hm hx, Go.Lib.grownBy_trans h3 (Go.Lib.grownBy_setCell wr g _ v)⟩

theorem StS.cell {w wr : World} {base g c n : Nat} {cur : List Sp} (h : StS w base g c n cur wr) {j m : Nat} (hj : j < n) (hm : m < 7) : wr.cell? ⟨g, j * 7 + m, none⟩ = (cur[j]'(by rw [h.len]; exact hj)).vals[m]? := by
  obtain ⟨h1, h2, h3⟩ := h
  subst h1
  exact h2.cellK valsSp_len hj hm

theorem StS.there {w wr : World} {base g c n : Nat} {cur : List Sp} (h : StS w base g c n cur wr) {j m : Nat} (hj : j < n) (hm : m < 7) : (wr.cell? ⟨g, j * 7 + m, none⟩).isSome = true ∧ wr.frozen? ⟨g, j * 7 + m, none⟩ = false := by
  have hb : (j + 1) * 7 ≤ n * 7 := Nat.mul_le_mul_right _ hj
  exact h.own.thereK (by decide) valsSp_len (by omega)

theorem StS.lt {w wr : World} {base g c n : Nat} {cur : List Sp} (h : StS w base g c n cur wr) : g < wr.heap.size := (h.own.lt g rfl).2

def StrOut (w : World) (base g c : Nat) (l : List Sp) (e : Ending) (w' : World) : Prop := e = .returned (.tuple #[]) ∧ StS w base g c l.length (strL l) w'

set_option maxHeartbeats 6400000 in
set_option maxRecDepth 100000 in
theorem strengthen_any (l : List Sp) (base g c : Nat) (w : World) (hl : l.length ≤ 1000000) (h : OwnK 7 90 w base (.slice (some ⟨g, 0, none⟩) l.length c) l.length (flatG Sp.vals l)) (hw : ∀ j (h : j < l.length), l[j].strong = false) :
    Calls Tryz.prog 157 #[.slice (some ⟨g, 0, none⟩) l.length c] w (StrOut w base g c l) := by
  have HPO : Hid (∀ w', StS w base g c l.length (strL l) w' → StrOut w base g c l (.returned (.tuple #[])) w') := hide fun w' h => ⟨rfl, h⟩
  generalize StrOut w base g c l = PO at *
  have HS0 := hide (show StS w base g c l.length (stL (cntB (l.take 0) / 2 * 2) l) w from ⟨stL_len _ _, by rw [show cntB (l.take 0) / 2 * 2 = 0 from by rw [List.take_zero]; rfl, stL_zero hw]; exact h, ⟨rfl, rfl, rfl, Nat.le_refl _, fun _ _ _ => rfl⟩⟩)
  clear h hw
  go_enter Tryz.func157, Tryz.ntmps157
  go_wp2
  go_loopw [2, 7] (fun s2 s7 wr => ∃ (i : Nat) (o : Int), i ≤ l.length ∧ s2 = .int .i64 o ∧ s7 = .int .i64 i ∧ Hid (OpJ l i o) ∧ Hid (StS w base g c l.length (stL (cntB (l.take i) / 2 * 2) l) wr)) (fun _ s7 _ => l.length - (intOf s7).toNat)
  case atStart => exact ⟨0, -1, Nat.zero_le _, rfl, rfl, hide (OpJ.start l), HS0⟩
  case round =>
    clear HS0
    obtain ⟨i, o, hi, rfl, rfl, HOJ, HS⟩ := hrel
    by_cases hlt : i < l.length
    · have i1 : (i : Int) < (l.length : Int) := by omega
      have c0 := HS.out.cell hlt (show 0 < 7 by decide)
      have hgl := HS.out.lt
      rw [show ((stL (cntB (l.take i) / 2 * 2) l)[i]'(by rw [stL_len]; exact hlt)).vals[0]? = some (.int .i64 l[i].kind) from by rw [stL_get _ hlt]; rfl] at c0
      rw [Nat.add_zero] at c0
      by_cases hk : l[i].kind = 7
      · have b1 : (l[i].kind != 7) = false := by rw [hk]; rfl
        rcases (show o = -1 ∨ ∃ k : Nat, o = k ∧ k < i from by rcases HOJ.out with ⟨e, -⟩ | ⟨k, e, h2, -⟩; exact .inl e; exact .inr ⟨k, e, h2⟩) with rfl | ⟨k, rfl, hki⟩
        · obtain ⟨hoj, hq⟩ := HOJ.out.opens hlt hk
          have HOJ2 := hide hoj
          have HS2 := hide (show StS w base g c l.length (stL (cntB (l.take (i + 1)) / 2 * 2) l) wr from by rw [hq]; exact HS.out)
          clear hoj hq HOJ HS hk
          generalize l[i].kind = kd at *
          go_wp2
          go_roundw
          case rel => exact ⟨i + 1, i, hlt, rfl, by go_num, HOJ2, HS2⟩
          case measure => simp [intOf]; omega
        · obtain ⟨hko, hoj, hmi⟩ := HOJ.out.shuts hlt hk
          have HOJ2 := hide hoj
          have HMI := hide hmi
          have b2 : ¬ (k : Int) < 0 := by omega
          have HS1 := hide (show StS w base g c l.length (miL (cntB (l.take i) / 2 * 2) k k l) wr from by rw [miL_start]; exact HS.out)
          clear hoj hmi HOJ HS hk
          generalize l[i].kind = kd at *
          go_wp2
          go_loopw [4] (fun s4 wx => ∃ m : Nat, k ≤ m ∧ m ≤ i + 1 ∧ s4 = .int .i64 m ∧ Hid (StS w base g c l.length (miL (cntB (l.take i) / 2 * 2) k m l) wx)) (fun s4 _ => i + 1 - (intOf s4).toNat)
          case atStart => exact ⟨k, Nat.le_refl _, by omega, rfl, HS1⟩
          case round =>
            clear HS1 c0 hgl
            obtain ⟨m, hm1, hm2, rfl, HM⟩ := hrel
            by_cases hmi : m ≤ i
            · have hml : m < l.length := by omega
              have j1 : (m : Int) ≤ (i : Int) := by omega
              have j2 : (m : Int) < (l.length : Int) := by omega
              obtain ⟨hc6, f6⟩ := HM.out.there hml (show 6 < 7 by decide)
              obtain ⟨u6, c6⟩ := Option.isSome_iff_exists.1 hc6
              have hgl := HM.out.lt
              have HM2 := hide (show StS w base g c l.length (miL (cntB (l.take i) / 2 * 2) k (m + 1) l) (wr.setCell ⟨g, m * 7 + 6, none⟩ (.bool true)) from by rw [← miL_step hml hm1]; exact HM.out.set1 (by rw [miL_len]; exact hml) (by decide) rfl)
              clear hc6 HM
              go_wp2
              go_roundw
              case rel => exact ⟨m + 1, by omega, by omega, by go_num, HM2⟩
              case measure => simp [intOf]; omega
            · obtain rfl : m = i + 1 := by omega
              have j1 : ¬ ((i + 1 : Nat) : Int) ≤ (i : Int) := by omega
              have HS2 := hide (show StS w base g c l.length (stL (cntB (l.take (i + 1)) / 2 * 2) l) wr from by rw [← HMI.out]; exact HM.out)
              clear HM HMI
              go_wp2
              go_roundw
              case rel => exact ⟨i + 1, -1, hlt, rfl, by go_num, HOJ2, HS2⟩
              case measure => simp [intOf]; omega
      · have b1 : (l[i].kind != 7) = true := bne_iff_ne.2 hk
        obtain ⟨hoj, hq⟩ := HOJ.out.skip hlt hk
        have HOJ2 := hide hoj
        have HS2 := hide (show StS w base g c l.length (stL (cntB (l.take (i + 1)) / 2 * 2) l) wr from by rw [hq]; exact HS.out)
        clear hoj hq HOJ HS hk
        generalize l[i].kind = kd at *
        go_wp2
        go_roundw
        case rel => exact ⟨i + 1, o, hlt, rfl, by go_num, HOJ2, HS2⟩
        case measure => simp [intOf]; omega
    · obtain rfl : i = l.length := by omega
      rcases (show o = -1 ∨ ∃ k : Nat, o = k from by rcases HOJ.out with ⟨e, -⟩ | ⟨k, e, -⟩; exact .inl e; exact .inr ⟨k, e⟩) with rfl | ⟨k, rfl⟩
      · have HR := hide (HPO.out wr (by rw [← HOJ.out.endN]; exact HS.out))
        clear HOJ HS
        go_wp2
        go_end0
        exact HR.out
      · obtain ⟨hkl, hend⟩ := HOJ.out.endO
        have j1 : (0 : Int) ≤ (k : Int) := by omega
        have j2 : (k : Int) < (l.length : Int) := by omega
        obtain ⟨hc0, f0⟩ := HS.out.there hkl (show 0 < 7 by decide)
        obtain ⟨u0, c0⟩ := Option.isSome_iff_exists.1 hc0
        rw [Nat.add_zero] at c0 f0
        have hgl := HS.out.lt
        have HR := hide (HPO.out (wr.setCell ⟨g, k * 7 + 0, none⟩ (.int .i64 1)) (by rw [← hend]; exact HS.out.set1 (by rw [stL_len]; exact hkl) (by decide) rfl))
        rw [Nat.add_zero] at HR
        clear HOJ HS hc0 hend
        go_wp2
        go_end0
        exact HR.out

end Go.Proofs.YtioppoaijehicaaGreatDoor
/-
  PLAIN AND WALKS: the spans of a string, in the program.
-/
namespace Go.Proofs.YtioppoaijehicaaGreatDoor
open Go.RowKit

/-! ### Plain -/
theorem mrg1_nil (x : Sp) : mrg1 [] x = [x] := rfl

theorem mrg1_at {out : List Sp} {m : Nat} (x : Sp) (h : out.length = m + 1) : mrg1 out x = if x.kind = 1 ∧ (out[m]'(by omega)).kind = 1 ∧ (out[m]'(by omega)).strong = x.strong then out.set m { (out[m]'(by omega)) with «to» := x.to } else out ++ [x] := by
  have hg : out.getLast? = some (out[m]'(by omega)) := by
    have e : out.length - 1 = m := by omega
    rw [List.getLast?_eq_getElem?, e]
    exact List.getElem?_eq_getElem (by omega)
  unfold mrg1
  rw [hg]
  simp only
  by_cases hc : x.kind = 1 ∧ (out[m]'(by omega)).kind = 1 ∧ (out[m]'(by omega)).strong = x.strong
  · rw [if_pos hc, if_pos hc]
    apply List.ext_getElem
    · simp only [List.length_append, List.length_dropLast, List.length_cons, List.length_nil, List.length_set]; omega
    · intro j h1 h2
      rw [List.length_set] at h2
      rw [List.getElem_set]
      by_cases e : m = j
      · subst e
        rw [if_pos rfl, List.getElem_append_right (by rw [List.length_dropLast]; omega)]
        simp
      · rw [if_neg e, List.getElem_append_left (by rw [List.length_dropLast]; omega), List.getElem_dropLast]
  · rw [if_neg hc, if_neg hc]

def mrgJ (L : List Sp) (j : Nat) : List Sp := (L.take j).foldl mrg1 []

theorem mrgJ_zero (L : List Sp) : mrgJ L 0 = [] := rfl

theorem mrgJ_all (L : List Sp) : mrgJ L L.length = mrgL L := by unfold mrgJ mrgL; rw [List.take_length]

theorem mrgJ_succ {L : List Sp} {j : Nat} (h : j < L.length) : mrgJ L (j + 1) = mrg1 (mrgJ L j) L[j] := by
  unfold mrgJ
  rw [List.take_succ_eq_append_getElem h, List.foldl_append]
  rfl

theorem mrgJ_len (L : List Sp) : ∀ j, (mrgJ L j).length ≤ j
  | 0 => by rw [mrgJ_zero]; exact Nat.le_refl _
  | j + 1 => by
    rcases Nat.lt_or_ge j L.length with h | h
    · rw [mrgJ_succ h]
      have := mrg1_len (mrgJ L j) L[j]
      have := mrgJ_len L j
      omega
    · have := mrgJ_len L j
      unfold mrgJ at this ⊢
      rw [List.take_of_length_le (by omega)] at this ⊢
      omega

/-- Where spans lie. -/
def FitS (s : ByteArray) (l : List Sp) : Prop := ∀ y ∈ l, y.fr ≤ y.to ∧ y.to ≤ s.size

theorem mrg_fits {s : ByteArray} : ∀ (l out : List Sp) (i : Nat), Ch2 s i l → FitS s out → (∀ y, out.getLast? = some y → y.to = i) → FitS s (l.foldl mrg1 out)
  | [], out, _, _, h, _ => h
  | x :: t, out, i, h, ho, hl => by
    obtain ⟨h1, h2, h3, h4⟩ := h
    rw [List.foldl_cons]
    have hx : x.fr ≤ x.to ∧ x.to ≤ s.size := ⟨by omega, h3⟩
    refine mrg_fits t _ x.to h4 ?_ ?_
    · rcases Nat.eq_zero_or_pos out.length with e | e
      · rw [List.length_eq_zero_iff.1 e, mrg1_nil]
        intro y hy
        rw [List.mem_singleton.1 hy]
        exact hx
      · rw [mrg1_at (m := out.length - 1) x (by omega)]
        split
        · intro y hy
          rcases List.mem_or_eq_of_mem_set hy with hy | rfl
          · exact ho y hy
          · have hm := List.getElem_mem (l := out) (n := out.length - 1) (by omega)
            have h9 := ho _ hm
            have h8 := hl (out[out.length - 1]'(by omega)) (by rw [List.getLast?_eq_getElem?, List.getElem?_eq_getElem (by omega)])
            refine ⟨?_, h3⟩
            show (out[out.length - 1]'(by omega)).fr ≤ x.to
            omega
        · intro y hy
          rcases List.mem_append.1 hy with hy | hy
          · exact ho y hy
          · rw [List.mem_singleton.1 hy]; exact hx
    · intro y hy
      unfold mrg1 at hy
      split at hy
      · split at hy
        · simp only [List.getLast?_append, List.getLast?_singleton, Option.some_or] at hy
          obtain rfl := Option.some.inj hy
          rfl
        · simp only [List.getLast?_append, List.getLast?_singleton, Option.some_or] at hy
          obtain rfl := Option.some.inj hy
          rfl
      · simp only [List.getLast?_append, List.getLast?_singleton, Option.some_or] at hy
        obtain rfl := Option.some.inj hy
        rfl

theorem mrgL_fits (s : ByteArray) : FitS s (mrgL (strL (toksAt s 0))) :=
  mrg_fits _ [] 0 (strG_ch _ _ _ _ (toks_ch s _ 0 (Nat.le_refl _))) (fun y hy => by cases hy) (fun y hy => by cases hy)

/-- Texts laid in, up to a place. -/
def fiL (s : ByteArray) (i : Nat) (l : List Sp) : List Sp := l.mapIdx fun j x => if j < i then fill1 s x else x

theorem fiL_len (s : ByteArray) (i : Nat) (l : List Sp) : (fiL s i l).length = l.length := by unfold fiL; simp

theorem fiL_get (s : ByteArray) (i : Nat) {l : List Sp} {j : Nat} (h : j < l.length) : (fiL s i l)[j]'(by rw [fiL_len]; exact h) = if j < i then fill1 s l[j] else l[j] := by
  unfold fiL
  rw [List.getElem_mapIdx]

theorem fiL_zero (s : ByteArray) (l : List Sp) : fiL s 0 l = l := by
  apply List.ext_getElem
  · rw [fiL_len]
  · intro j h1 h2
    rw [fiL_get s 0 h2, if_neg (by omega)]

theorem fiL_all (s : ByteArray) (l : List Sp) : fiL s l.length l = l.map (fill1 s) := by
  apply List.ext_getElem
  · rw [fiL_len, List.length_map]
  · intro j h1 h2
    rw [List.length_map] at h2
    rw [fiL_get s _ h2, if_pos h2, List.getElem_map]

theorem fiL_here (s : ByteArray) {l : List Sp} {i : Nat} (h : i < l.length) : (fiL s i l)[i]'(by rw [fiL_len]; exact h) = l[i] := by
  rw [fiL_get s i h, if_neg (by omega)]

theorem fiL_skip (s : ByteArray) {l : List Sp} {i : Nat} (h : i < l.length) (hk : l[i].kind ≠ 1) : fiL s (i + 1) l = fiL s i l := by
  apply List.ext_getElem
  · rw [fiL_len, fiL_len]
  · intro j h1 h2
    rw [fiL_len] at h1
    rw [fiL_get s _ h1, fiL_get s _ h1]
    by_cases e : j = i
    · subst e
      rw [if_pos (by omega), if_neg (by omega)]
      unfold fill1
      rw [if_neg hk]
    · by_cases e2 : j < i
      · rw [if_pos (by omega), if_pos e2]
      · rw [if_neg (by omega), if_neg e2]

theorem fiL_put (s : ByteArray) {l : List Sp} {i : Nat} (h : i < l.length) (hk : l[i].kind = 1) : (fiL s i l).set i { l[i] with txt := s.extract l[i].fr l[i].to } = fiL s (i + 1) l := by
  apply List.ext_getElem
  · rw [List.length_set, fiL_len, fiL_len]
  · intro j h1 h2
    rw [List.length_set, fiL_len] at h1
    rw [List.getElem_set, fiL_get s (i + 1) h1]
    by_cases e : i = j
    · subst e
      rw [if_pos rfl, if_pos (by omega)]
      unfold fill1
      rw [if_pos hk]
    · rw [if_neg e, fiL_get s i h1]
      by_cases e2 : j < i
      · rw [if_pos e2, if_pos (by omega)]
      · rw [if_neg e2, if_neg (by omega)]

theorem toks_weak (s : ByteArray) : ∀ j (h : j < (toksAt s 0).length), (toksAt s 0)[j].strong = false := fun j h => ((toks_ch s _ 0 (Nat.le_refl _)).tok j h).weak

/-! ### strengthen at any row -/
set_option maxHeartbeats 1600000 in
set_option maxRecDepth 100000 in
theorem strengthen0_any (A : Option Addr) (c : Nat) (w : World) :
    Calls Tryz.prog 157 #[.slice A 0 c] w fun e w' => e = .returned (.tuple #[]) ∧ w' = w := by
  have HPO : Hid ((fun (e : Ending) w' => e = .returned (.tuple #[]) ∧ w' = w) (.returned (.tuple #[])) w) := hide ⟨rfl, rfl⟩
  generalize (fun (e : Ending) w' => e = .returned (.tuple #[]) ∧ w' = w) = PO at *
  go_enter Tryz.func157, Tryz.ntmps157
  go_wp2
  go_loopw [2, 7] (fun s2 s7 wr => s2 = .int .i64 (-1) ∧ s7 = .int .i64 0 ∧ wr = w) (fun _ _ _ => 0)
  case atStart => exact ⟨rfl, rfl, rfl⟩
  case round =>
    obtain ⟨rfl, rfl, rfl⟩ := hrel
    go_wp2
    go_end0
    exact HPO.out

theorem strengthenR_any (l : List Sp) (base : Nat) (A : Option Addr) (c : Nat) (w : World) (hl : l.length ≤ 1000000) (h : OwnK 7 90 w base (.slice A l.length c) l.length (flatG Sp.vals l)) (hw : ∀ j (h : j < l.length), l[j].strong = false) :
    Calls Tryz.prog 157 #[.slice A l.length c] w fun e w' => e = .returned (.tuple #[]) ∧ OwnK 7 90 w' base (.slice A l.length c) l.length (flatG Sp.vals (strL l)) ∧ w.grownBy w' (Value.slice A l.length c).ownBlock := by
  rcases Nat.eq_zero_or_pos l.length with h0 | h0
  · obtain rfl := List.length_eq_zero_iff.1 h0
    refine (strengthen0_any A c w).mono ?_
    rintro e w' ⟨rfl, rfl⟩
    exact ⟨rfl, h, ⟨rfl, rfl, rfl, Nat.le_refl _, fun _ _ _ => rfl⟩⟩
  · obtain ⟨hl1, A', c', hv, h1, h2, h3⟩ := id h
    injection hv with e1 _ e3
    subst e1 e3
    rcases h3 with ⟨-, e, -⟩ | ⟨g, cur, rfl, -⟩
    · omega
    · refine (strengthen_any l base g c w hl h hw).mono ?_
      rintro e w' ⟨rfl, hs⟩
      exact ⟨rfl, hs.own, hs.grown⟩

set_option maxHeartbeats 6400000 in
set_option maxRecDepth 100000 in
theorem spans_any (s : ByteArray) (w : World) (hs : s.size ≤ 900000) :
    Calls Tryz.prog 116 #[.string s] w (RowSp (spansL s) w) := by
  have HPO : Hid (∀ A c n w', n = (spansL s).length → OwnK 7 90 w' w.heap.size (.slice A n c) n (flatG Sp.vals (spansL s)) → Below w.heap.size w w' → RowSp (spansL s) w (.returned (.slice A n c)) w') := hide fun A c n w' hn h1 h2 => by subst hn; exact ⟨A, c, rfl, h1, h2⟩
  generalize RowSp (spansL s) w = PO at *
  have HTK := hide (tokens_any s w hs)
  have htl := toks_len s 0
  have HST := hide (fun A c W (h : OwnK 7 90 W w.heap.size (.slice A (toksAt s 0).length c) (toksAt s 0).length (flatG Sp.vals (toksAt s 0))) => strengthenR_any (toksAt s 0) w.heap.size A c W (by omega) h (toks_weak s))
  have HFT := hide (mrgL_fits s)
  have HSP := hide (show spansL s = (mrgL (strL (toksAt s 0))).map (fill1 s) from rfl)
  have hLl : (strL (toksAt s 0)).length = (toksAt s 0).length := strL_len _
  unfold RowSp at HTK
  obtain ⟨iS, hiS, hzS0, hzS1, hzS2⟩ := info_parts info_sp
  have HIS := hide (And.intro hiS (And.intro hzS0 (And.intro hzS1 hzS2)))
  clear hiS hzS0 hzS1 hzS2
  generalize toksAt s 0 = tk at *
  generalize strL tk = L at *
  rw [← hLl] at HST HTK htl
  clear hLl
  go_enter Tryz.func116, Tryz.ntmps116
  go_upto_region 5 with (first
    | (go_at_call 156; refine HTK.out.mono ?_; rintro e w1 ⟨A1, c1, rfl, ho1, hb1⟩; have HO1 := hide ho1; have HB1 := hide hb1; clear ho1 hb1)
    | (go_at_call 157; refine (HST.out _ _ _ HO1.out).mono ?_; rintro e w2 ⟨rfl, ho2, hg2⟩; have HO2 := hide ho2; have HB2 := hide (HB1.out.grown hg2 HB1.out.size (fun k hk => (HO1.out.lt k hk).1) : Below w.heap.size w w2); clear ho2 hg2))
  have HRD := hide (rdK_own valsSp_len (by decide) HO2.out)
  have HGE := hide HB2.out.size
  clear HTK HST HO1 HB1 HO2
  have HMZ := hide (mrgJ_zero L)
  have HML := hide (mrgJ_len L)
  have HMS := hide (fun j (h : j < L.length) => mrgJ_succ h)
  go_loopw [4, 15] (fun s4 s15 wr => ∃ (j : Nat) (A4 : Option Addr) (c4 : Nat), j ≤ L.length ∧ s4 = .slice A4 (mrgJ L j).length c4 ∧ s15 = .int .i64 j ∧ Hid (OwnK 7 90 wr w2.heap.size (.slice A4 (mrgJ L j).length c4) (mrgJ L j).length (flatG Sp.vals (mrgJ L j))) ∧ Hid (Below w2.heap.size w2 wr)) (fun _ s15 _ => L.length - (intOf s15).toNat)
  case atStart => exact ⟨0, none, 0, Nat.zero_le _, by rw [HMZ.out]; rfl, rfl, hide (by rw [HMZ.out]; exact OwnK.empty), hide (Below.refl _ _)⟩
  case round =>
    obtain ⟨j, A4, c4, hj, rfl, rfl, HOW, HB⟩ := hrel
    by_cases hlt : j < L.length
    · obtain ⟨b, o, rfl, hb, hv0⟩ := HRD.out (by omega)
      have hv := hv0 j hlt
      have hq := fun i (hi : i < 7) => (HB.out.cell (p := ⟨b, o + j * 7 + i, none⟩) hb).trans (hv i hi)
      have q0 := hq 0 (by decide)
      have q1 := hq 1 (by decide)
      have q2 := hq 2 (by decide)
      have q3 := hq 3 (by decide)
      have q4 := hq 4 (by decide)
      have q5 := hq 5 (by decide)
      have q6 := hq 6 (by decide)
      have hms := HMS.out j hlt
      have hml := HML.out j
      have HJS := hide (show mrgJ L (j + 1) = mrg1 (mrgJ L j) L[j] from hms)
      clear hv hv0 hq hms
      generalize hm2 : mrgJ L (j + 1) = out2 at *
      have HM2 := hide hm2
      clear hm2
      generalize L[j] = x at *
      generalize mrgJ L j = out at *
      have hbr : b < wr.heap.size := Nat.lt_of_lt_of_le hb HB.out.size
      have i1 : (j : Int) < (L.length : Int) := by omega
      dsimp only [Sp.vals] at q0 q1 q2 q3 q4 q5 q6
      simp only [List.getElem?_cons_zero, List.getElem?_cons_succ, Nat.add_zero] at q0 q1 q2 q3 q4 q5 q6
      go_upto_region 7 with (fail)
      have HX := hide (Blk.new wr 90 #[.int .i64 x.kind, .int .i64 (x.fr : Nat), .int .i64 (x.to : Nat), .string x.txt, .string x.sho, .int .i64 x.id, .bool x.strong])
      have HNE := hide (show some wr.heap.size ≠ (Value.slice A4 out.length c4).ownBlock from fun e9 => by have := (HOW.out.lt _ e9.symm).2; omega)
      have HOW5 := hide (ownK_alloc HOW.out (.cells #[.int .i64 x.kind, .int .i64 (x.fr : Nat), .int .i64 (x.to : Nat), .string x.txt, .string x.sho, .int .i64 x.id, .bool x.strong] 90))
      have HB5 := hide (bl_alloc HB.out (.cells #[.int .i64 x.kind, .int .i64 (x.fr : Nat), .int .i64 (x.to : Nat), .string x.txt, .string x.sho, .int .i64 x.id, .bool x.strong] 90))
      generalize wr.alloc (.cells #[.int .i64 x.kind, .int .i64 (x.fr : Nat), .int .i64 (x.to : Nat), .string x.txt, .string x.sho, .int .i64 x.id, .bool x.strong] 90) = W5 at *
      generalize wr.heap.size = gX at *
      obtain ⟨x0, x1, x2, x3, x4, x5, x6, -, xl⟩ := HX.out.seven
      clear q0 q1 q2 q3 q4 q5 q6 HOW HB hbr
      obtain ⟨bX, hbX⟩ : ∃ bX, (x.kind == 1) = bX := ⟨_, rfl⟩
      rcases Nat.eq_zero_or_pos out.length with h0 | h0
      · obtain rfl := List.length_eq_zero_iff.1 h0
        have HO2 := hide (HJS.out.trans (mrg1_nil x))
        clear HJS h0 HML
        go_upto_region 8 with (fail)
        go_cut [46] from 22 to 46 (fun s46 wx => s46 = .bool false ∧ ∃ q, W5.drewN q = wx)
        case first =>
          cases bX
          all_goals
            go_quiet (fail)
            go_wp2
            go_meet
            exact ⟨rfl, _, rfl⟩
        case rest =>
          obtain ⟨rfl, q, rfl⟩ := hcut
          have HOW6 := hide (ownK_drewN HOW5.out q)
          have HB6 := hide (bl_drewN HB5.out q)
          clear HOW5 HB5
          go_wp2_with (at_builtin; refine wpList_append_k rfl (.tmp 53) (.tmp 55) rfl rfl Tryz.underlying88 HIS.out.1 HIS.out.2.1 HIS.out.2.2.1 (by decide) rfl (by have := HIS.out.2.2.2; omega) w2.heap.size ([] : List Sp).length (.slice A4 ([] : List Sp).length c4) (flatG Sp.vals ([] : List Sp)) [.int .i64 x.kind, .int .i64 (x.fr : Nat), .int .i64 (x.to : Nat), .string x.txt, .string x.sho, .int .i64 x.id, .bool x.strong] _ rfl (ownK_alloc HOW6.out _) rfl (by intro u hu; simp only [List.mem_cons, List.not_mem_nil, or_false] at hu; rcases hu with rfl | rfl | rfl | rfl | rfl | rfl | rfl <;> rfl) rfl (newN_cells rfl) (by have := hml; omega) (by simp only [World.size_alloc]; have := HB6.out.size; omega) ?_; intro v8 w8 hown8 hgr8 hdj8; obtain ⟨A8, c8, rfl⟩ := ownSp_form hown8; have HO8 := hide hown8; have HB8 := hide ((bl_alloc HB6.out _).grown hgr8 (by simp only [World.size_alloc]; have := HB6.out.size; omega) (fun k hk => (HOW6.out.lt k hk).1) : Below w2.heap.size w2 w8); clear hown8 hgr8 hdj8)
          rw [flatSp_snoc [] x] at HO8
          go_roundw
          case rel => exact ⟨j + 1, A8, c8, hlt, by rw [HM2.out, HO2.out]; rfl, by go_num, hide (by rw [HM2.out, HO2.out]; exact HO8.out), HB8⟩
          case measure => simp [intOf]; omega
      · obtain ⟨m, hm⟩ : ∃ m, out.length = m + 1 := ⟨out.length - 1, by omega⟩
        have HO2 := hide (HJS.out.trans (mrg1_at x hm))
        obtain ⟨g4, rfl⟩ : ∃ g4, A4 = some ⟨g4, 0, none⟩ := by
          obtain ⟨-, A', c', hv, -, -, h3⟩ := HOW5.out
          injection hv with e1 _ _
          subst e1
          rcases h3 with ⟨-, e, -⟩ | ⟨g, cur, e, -⟩
          · omega
          · exact ⟨g, e⟩
        have hml9 : m < out.length := by omega
        have hg4 := (HOW5.out.lt g4 rfl).2
        have y0 := HOW5.out.cellK valsSp_len hml9 (show 0 < 7 by decide)
        have y6 := HOW5.out.cellK valsSp_len hml9 (show 6 < 7 by decide)
        have y2 := HOW5.out.cellK valsSp_len hml9 (show 2 < 7 by decide)
        have yf := (HOW5.out.thereK (by decide) valsSp_len (k := m * 7 + 2) (by omega)).2
        have HSET := hide (fun (W : World) (h : OwnK 7 90 W w2.heap.size (.slice (some ⟨g4, 0, none⟩) out.length c4) out.length (flatG Sp.vals out)) => OwnK.set1 (v := .int .i64 (x.to : Nat)) (x := { out[m] with «to» := x.to }) (m := 2) valsSp_len h hml9 (by decide) rfl)
        have HLS := hide (show (out.set m { out[m] with «to» := x.to }).length = out.length from List.length_set)
        generalize hy : out[m] = y at *
        dsimp only [Sp.vals] at y0 y2 y6
        simp only [List.getElem?_cons_zero, List.getElem?_cons_succ, Nat.add_zero] at y0 y2 y6
        obtain ⟨bY, hbY⟩ : ∃ bY, (y.kind == 1) = bY := ⟨_, rfl⟩
        obtain ⟨bG, hbG⟩ : ∃ bG, (y.strong == x.strong) = bG := ⟨_, rfl⟩
        have HT : Hid (out2 = if (bX && (bY && bG)) = true then out.set m { y with «to» := x.to } else out ++ [x]) := hide (by
          rw [HO2.out]
          have e1 : bX = true ↔ x.kind = 1 := by rw [← hbX, beq_iff_eq]
          have e2 : bY = true ↔ y.kind = 1 := by rw [← hbY, beq_iff_eq]
          have e3 : bG = true ↔ y.strong = x.strong := by rw [← hbG, beq_iff_eq]
          simp only [Bool.and_eq_true, e1, e2, e3])
        have i2 : (0 : Int) ≤ (m : Int) := by omega
        have i3 : (m : Int) < (out.length : Int) := by omega
        have HLO := hide (show (out ++ [x]).length = out.length + 1 by simp)
        have HN1 := hide hm
        clear HO2 HJS h0 hm hy
        go_upto_region 8 with (fail)
        rw [show ((out.length : Nat) : Int) - 1 = (m : Int) by have := HN1.out; omega]
        go_cut [46] from 22 to 46 (fun s46 wx => s46 = .bool (bX && (bY && bG)) ∧ ∃ q, W5.drewN q = wx)
        case first =>
          cases bX <;> cases bY <;> cases bG
          all_goals
            go_quiet (fail)
            go_wp2
            go_meet
            exact ⟨rfl, _, rfl⟩
        case rest =>
          obtain ⟨rfl, q, rfl⟩ := hcut
          have HOW6 := hide (ownK_drewN HOW5.out q)
          have HB6 := hide (bl_drewN HB5.out q)
          have HO2 := HT
          clear HOW5 HB5 HT y0 y6 hbX hbY hbG
          cases hT : (bX && (bY && bG)) with
          | true =>
            rw [hT, if_pos rfl] at HO2
            have HO8 := hide (HSET.out _ HOW6.out)
            have HB8 := hide (HB6.out.setCell (p := ⟨g4, m * 7 + 2, none⟩) (HOW6.out.lt g4 rfl).1 (.int .i64 (x.to : Nat)))
            clear HSET hT HLO HOW6 HB6
            go_wp2
            go_roundw
            case rel => exact ⟨j + 1, some ⟨g4, 0, none⟩, c4, hlt, by rw [HM2.out, HO2.out, HLS.out], by go_num, hide (by rw [HM2.out, HO2.out, HLS.out]; exact HO8.out), HB8⟩
            case measure => simp [intOf]; omega
          | false =>
            rw [hT, if_neg Bool.false_ne_true] at HO2
            clear HSET hT HLS yf y2
            go_wp2_with (at_builtin; refine wpList_append_k rfl (.tmp 53) (.tmp 55) rfl rfl Tryz.underlying88 HIS.out.1 HIS.out.2.1 HIS.out.2.2.1 (by decide) rfl (by have := HIS.out.2.2.2; omega) w2.heap.size out.length (.slice (some ⟨g4, 0, none⟩) out.length c4) (flatG Sp.vals out) [.int .i64 x.kind, .int .i64 (x.fr : Nat), .int .i64 (x.to : Nat), .string x.txt, .string x.sho, .int .i64 x.id, .bool x.strong] _ rfl (ownK_alloc HOW6.out _) rfl (by intro u hu; simp only [List.mem_cons, List.not_mem_nil, or_false] at hu; rcases hu with rfl | rfl | rfl | rfl | rfl | rfl | rfl <;> rfl) rfl (newN_cells rfl) (by have := hml; omega) (by simp only [World.size_alloc]; have := HB6.out.size; omega) ?_; intro v8 w8 hown8 hgr8 hdj8; obtain ⟨A8, c8, rfl⟩ := ownSp_form hown8; have HO8 := hide hown8; have HB8 := hide ((bl_alloc HB6.out _).grown hgr8 (by simp only [World.size_alloc]; have := HB6.out.size; omega) (fun k hk => (HOW6.out.lt k hk).1) : Below w2.heap.size w2 w8); clear hown8 hgr8 hdj8)
            rw [flatSp_snoc out x, ← HLO.out] at HO8
            rw [← HLO.out]
            go_wp2
            go_roundw
            case rel => exact ⟨j + 1, A8, c8, hlt, by rw [HM2.out, HO2.out], by go_num, hide (by rw [HM2.out, HO2.out]; exact HO8.out), HB8⟩
            case measure => simp [intOf]; omega
    · obtain rfl : j = L.length := by omega
      have hma := mrgJ_all L
      have hml := HML.out L.length
      rw [hma] at HOW hml
      rw [hma]
      clear hma HRD HMZ HML HMS
      generalize mrgL L = M at *
      have HB2w := hide (HB2.out.trans (HB.out.mono HB2.out.size) : Below w.heap.size w wr)
      have HOW1 := hide (ownK_low HOW.out HB2.out.size)
      have HF0 := hide (fiL_zero s M)
      have HFA := hide (fiL_all s M)
      clear HOW HB HB2 HGE
      obtain ⟨w5, hw5⟩ : ∃ w5 : World, w5 = wr := ⟨_, rfl⟩
      subst hw5
      have HFIN := hide (fun A c w' => HPO.out A c M.length w' (by rw [HSP.out, List.length_map]))
      rw [HSP.out, ← HFA.out] at HFIN
      go_wp2
      go_loopw [60] (fun s60 wr => ∃ i : Nat, i ≤ M.length ∧ s60 = .int .i64 i ∧ Hid (OwnK 7 90 wr w.heap.size (.slice A4 M.length c4) M.length (flatG Sp.vals (fiL s i M))) ∧ Hid (Below w.heap.size w wr)) (fun s60 _ => M.length - (intOf s60).toNat)
      case atStart => exact ⟨0, Nat.zero_le _, rfl, hide (by rw [HF0.out]; exact HOW1.out), HB2w⟩
      case round =>
        clear HOW1 HB2w HF0
        obtain ⟨i, hi, rfl, HOW, HB⟩ := hrel
        by_cases hlt : i < M.length
        · obtain ⟨g4, rfl⟩ : ∃ g4, A4 = some ⟨g4, 0, none⟩ := by
            obtain ⟨-, A', c', hv, -, -, h3⟩ := HOW.out
            injection hv with e1 _ _
            subst e1
            rcases h3 with ⟨-, e, -⟩ | ⟨g, cur, e, -⟩
            · omega
            · exact ⟨g, e⟩
          have i1 : (i : Int) < (M.length : Int) := by omega
          have hg4 := (HOW.out.lt g4 rfl).2
          have hfl := fiL_len s i M
          have hlt2 : i < (fiL s i M).length := by rw [hfl]; exact hlt
          have hq := fun m (hm : m < 7) => HOW.out.cellK valsSp_len hlt2 hm
          rw [fiL_here s hlt] at hq
          have q0 := hq 0 (by decide)
          have q1 := hq 1 (by decide)
          have q2 := hq 2 (by decide)
          have q3 := hq 3 (by decide)
          have yf := (HOW.out.thereK (by decide) valsSp_len (k := i * 7 + 3) (by omega)).2
          obtain ⟨hf1, hf2⟩ := HFT.out M[i] (List.getElem_mem hlt)
          have HSK := hide (fun h => fiL_skip s hlt h)
          have HPT := hide (fun (h : M[i].kind = 1) => (show OwnK 7 90 (wr.setCell ⟨g4, i * 7 + 3, none⟩ (.string (s.extract M[i].fr M[i].to))) w.heap.size (.slice (some ⟨g4, 0, none⟩) M.length c4) M.length (flatG Sp.vals (fiL s (i + 1) M)) from by
            rw [← fiL_put s hlt h]
            have h9 := HOW.out
            have h8 := OwnK.set1 (f := Sp.vals) (K := 7) (l := fiL s i M) (v := .string (s.extract M[i].fr M[i].to)) (x := { M[i] with txt := s.extract M[i].fr M[i].to }) (m := 3) (j := i) valsSp_len (by rw [hfl]; exact h9) hlt2 (by decide) (by rw [fiL_here s hlt]; rfl)
            rw [hfl] at h8
            exact h8))
          clear hq hfl hlt2
          dsimp only [Sp.vals] at q0 q1 q2 q3
          simp only [List.getElem?_cons_zero, List.getElem?_cons_succ, Nat.add_zero] at q0 q1 q2 q3
          have j1 : (M[i].fr : Int) ≤ (M[i].to : Int) := by omega
          have j2 : (M[i].to : Int) ≤ (s.size : Int) := by omega
          by_cases hk : M[i].kind = 1
          · have b1 : (M[i].kind == 1) = true := by rw [hk]; rfl
            have HO8 := hide (HPT.out hk)
            have HB8 := hide (HB.out.setCell (p := ⟨g4, i * 7 + 3, none⟩) (HOW.out.lt g4 rfl).1 (.string (s.extract M[i].fr M[i].to)))
            clear HSK HPT hk HB HOW
            generalize M[i] = y at *
            go_upto_region 16 with (fail)
            go_region
            go_wp2
            go_roundw
            case rel => exact ⟨i + 1, hlt, by go_num, hide (ownK_drew HO8.out), hide (bl_drew HB8.out)⟩
            case measure => simp [intOf]; omega
          · have b1 : (M[i].kind == 1) = false := beq_eq_false_iff_ne.2 hk
            have HO8 := hide (show OwnK 7 90 wr w.heap.size (.slice (some ⟨g4, 0, none⟩) M.length c4) M.length (flatG Sp.vals (fiL s (i + 1) M)) from by rw [HSK.out hk]; exact HOW.out)
            clear HSK HPT hk HOW
            generalize M[i] = y at *
            go_wp2
            go_roundw
            case rel => exact ⟨i + 1, hlt, by go_num, HO8, HB⟩
            case measure => simp [intOf]; omega
        · obtain rfl : i = M.length := by omega
          have HR := hide (HFIN.out A4 c4 wr HOW.out HB.out)
          clear HFIN HOW HB
          go_wp2
          exact HR.out

end Go.Proofs.YtioppoaijehicaaGreatDoor
