/-
  WALKS: a state as text, in the program and in the reference.
-/
import Derived.Test.YtplmcpecffjheaaDoorLayB
import Derived.Test.YtplmcpecffjheaaDoorWalkA
import Derived.Test.YtplmcpecffjheaaDoorOwnK
import Derived.Test.YtplmcpecffjheaaDoorRowI
import Derived.Lib.ItoaMem
import Derived.Lib.ItoaLen
namespace Go.Proofs.YtplmcpecffjheaaDoor
open Go.RowKit

def nums (x : St) : List Int := [x.bl, x.no, x.st, x.ea, x.du, x.la, x.ti, x.lp, x.bu]
def itS (n : Int) : ByteArray := ⟨(Lib.itoa n).toArray⟩
def strsOf (x : St) : List ByteArray := (nums x).map itS
def stateS (x : St) : ByteArray := ⟨(Lib.join ((strsOf x).map (·.data.toList)) (⟨#[32]⟩ : ByteArray).data.toList).toArray⟩
theorem nums_bd {x : St} (h : x.Good) : ∀ k (hk : k < (nums x).length), -1 ≤ (nums x)[k] ∧ (nums x)[k] ≤ 1000000 := by
  intro k hk
  have h9 : k < 9 := hk
  have g1 := h.bl; have g2 := h.no; have g3 := h.st; have g4 := h.ea; have g5 := h.du; have g6 := h.la; have g7 := h.ti; have g8 := h.lp; have g9 := h.bu
  match k, h9 with
  | 0, _ => simp [nums]; omega
  | 1, _ => simp [nums]; omega
  | 2, _ => simp [nums]; omega
  | 3, _ => simp [nums]; omega
  | 4, _ => simp [nums]; omega
  | 5, _ => simp [nums]; omega
  | 6, _ => simp [nums]; omega
  | 7, _ => simp [nums]; omega
  | 8, _ => simp [nums]; omega
theorem join_len (sep : List UInt8) : ∀ (xs : List (List UInt8)), (∀ x ∈ xs, x.length ≤ 21) → (Lib.join xs sep).length ≤ xs.length * (21 + sep.length)
  | [], _ => by simp [Lib.join_nil]
  | [x], h => by
    rw [Lib.join_one]
    have := h x (by simp)
    simp only [List.length_cons, List.length_nil]
    omega
  | x :: y :: r, h => by
    have ih := join_len sep (y :: r) (fun z hz => h z (List.mem_cons_of_mem _ hz))
    have hx := h x (by simp)
    have e : Lib.join (x :: y :: r) sep = x ++ (sep ++ Lib.join (y :: r) sep) := by simp [Lib.join, List.intercalate]
    rw [e, List.length_append, List.length_append]
    simp only [List.length_cons] at ih ⊢
    rw [Nat.add_mul] 
    omega
theorem stateS_fits {x : St} (h : x.Good) : (Lib.join ((strsOf x).map (·.data.toList)) (⟨#[32]⟩ : ByteArray).data.toList).length ≤ 140737488355328 := by
  refine Nat.le_trans (join_len _ _ (fun l hl => ?_)) ?_
  · simp only [strsOf, List.map_map, List.mem_map, Function.comp] at hl
    obtain ⟨n, hn, rfl⟩ := hl
    obtain ⟨k, hk, rfl⟩ := List.getElem_of_mem hn
    have := nums_bd h k hk
    exact Lib.itoa_length_le _ (by omega) (by omega)
  · simp [strsOf, nums]
theorem info_st : (Tryd.prog.info? 9).map (fun i => (i.zero, i.size, i.bytes)) = some (some (.string ByteArray.empty), 1, 16) := by kernel_rfl
theorem gPow : Tryd.prog.globalNamed powName = some 0 := by kernel_rfl
theorem powTab_below {w w' : World} (h : PowTab w) (hb : Below w.heap.size w w') : PowTab w' := by
  unfold PowTab Lib.TabIs at *
  unfold World.var? at *
  rw [gPow] at *
  simp only [Option.bind_some] at *
  have hlt : 0 < w.heap.size := by
    rcases Nat.lt_or_ge 0 w.heap.size with hh | hh
    · exact hh
    · rw [Array.getElem?_eq_none hh] at h; cases h
  rw [hb.block _ hlt]
  exact h
theorem new1_at {w : World} {t : TypeId} {v : Value} {g : Nat} (hg : g = w.heap.size) : ∀ j u, ([v] : List Value)[j]? = some u → (w.alloc (.cells #[v] t)).cell? ((⟨g, 0, none⟩ : Addr).add j) = some u := by
  subst hg
  intro j u hj
  cases j with
  | zero =>
    simp only [List.getElem?_cons_zero] at hj
    show (w.alloc (.cells #[v] t)).cell? ⟨w.heap.size, 0, none⟩ = some u
    rw [(Blk.new w t #[v]).cell 0]
    simpa using hj
  | succ j => simp at hj
/-- What a row of strings that the call owns reads as. -/
theorem strs_cells {w : World} {base n : Nat} {A : Option Addr} {c : Nat} {xs : List ByteArray} (h : OwnK 1 9 w base (.slice A n c) n (xs.map Value.string)) (hp : 0 < n) :
    xs.length = n ∧ n ≤ c ∧ ∃ b, A = some ⟨b, 0, none⟩ ∧ b < w.heap.size ∧ ∀ (j : Nat) x, xs[j]? = some x → w.cell? ⟨b, 0 + j, none⟩ = some (.string x) := by
  obtain ⟨hl, A', c', hv, h1, _, h3⟩ := h
  injection hv with e1 e2 e3
  subst e1 e3
  clear e2
  rw [List.length_map, Nat.mul_one] at hl
  refine ⟨hl, h1, ?_⟩
  rcases h3 with ⟨_, h0, _⟩ | ⟨g, cur, hA, _, hb, h4, h5⟩
  · omega
  · refine ⟨g, hA, (Array.getElem?_eq_some_iff.1 hb).1, fun j x hj => ?_⟩
    have hjl : j < n := by
      have := (List.getElem?_eq_some_iff.1 hj).1
      omega
    rw [Nat.zero_add, cell_of_row w g j cur _ (0, 0) hb]
    have hq : (cur.toList.take (n * 1))[j]? = some (.string x) := by rw [h5, List.getElem?_map, hj]; rfl
    rw [List.getElem?_take_of_lt (by omega)] at hq
    simpa using hq

def TextOut (x : St) (w : World) (e : Ending) (w' : World) : Prop :=
  e = .returned (.tuple #[.string (if x.err = 0 then stateS x else ⟨#[]⟩), .int .i64 x.err]) ∧ Below w.heap.size w w'

theorem nums_int (x : St) : (#[.int .i64 x.bl, .int .i64 x.no, .int .i64 x.st, .int .i64 x.ea, .int .i64 x.du, .int .i64 x.la, .int .i64 x.ti, .int .i64 x.lp, .int .i64 x.bu] : Array Value) = ints (nums x) := rfl
set_option maxHeartbeats 3200000 in
set_option maxRecDepth 100000 in
theorem stateText_any (x : St) (w : World) (ht : PowTab w) (hck : ∀ w, Calls Tryd.prog 9 #[x.val] w fun e w' => e = .returned (.int .i64 x.err) ∧ Below w.heap.size w w') :
    Calls Tryd.prog 5 #[x.val] w (TextOut x w) := by
  unfold TextOut
  have hni := nums_int x
  by_cases he : x.err = 0
  · rw [if_pos he, he]
    rw [he] at hck
    have hg := St.good_of_err he
    have hfit := stateS_fits hg
    have hnb := nums_bd hg
    have h9 : (nums x).length = 9 := rfl
    have hsl : (strsOf x).length = 9 := rfl
    have HX := hide (show stateS x = ⟨(Lib.join ((strsOf x).map (·.data.toList)) (⟨#[32]⟩ : ByteArray).data.toList).toArray⟩ from rfl)
    have hso : (strsOf x) = (nums x).map itS := rfl
    have HFIT := hide hfit
    have HNB := hide hnb
    have HNI := hide hni
    have HSO := hide hso
    have HSL := hide hsl
    have H9 := hide h9
    have HT := hide ht
    obtain ⟨iP, hiP, hzP0, hzP1, hzP2⟩ := info_parts info_st
    have HIP := hide (And.intro hiP (And.intro hzP0 (And.intro hzP1 hzP2)))
    clear hiP hzP0 hzP1 hzP2 hfit hnb hni hso hsl h9 ht he hg
    unfold St.val at hck ⊢
    have HCK := hide hck
    clear hck
    generalize stateS x = S at *
    generalize strsOf x = ss at *
    generalize nums x = ns at *
    obtain ⟨b0, b1, b2, b3, b4, b5, b6, b7, b8⟩ := x
    simp only at HNI HCK ⊢
    go_enter Tryd.func5, Tryd.ntmps5
    go_wp2_with (go_at_call 9; refine (HCK.out _).mono ?_; rintro e w' ⟨rfl, hbl⟩; obtain ⟨os1, n1, rfl⟩ := below_plus hbl; clear hbl)
    have hB := Blk.new (plus (w.alloc (.cells #[.int .i64 b0, .int .i64 b1, .int .i64 b2, .int .i64 b3, .int .i64 b4, .int .i64 b5, .int .i64 b6, .int .i64 b7, .int .i64 b8] 23)) os1 n1) 3 #[.int .i64 b0, .int .i64 b1, .int .i64 b2, .int .i64 b3, .int .i64 b4, .int .i64 b5, .int .i64 b6, .int .i64 b7, .int .i64 b8]
    have hbw : Below w.heap.size w ((plus (w.alloc (.cells #[.int .i64 b0, .int .i64 b1, .int .i64 b2, .int .i64 b3, .int .i64 b4, .int .i64 b5, .int .i64 b6, .int .i64 b7, .int .i64 b8] 23)) os1 n1).alloc (.cells #[.int .i64 b0, .int .i64 b1, .int .i64 b2, .int .i64 b3, .int .i64 b4, .int .i64 b5, .int .i64 b6, .int .i64 b7, .int .i64 b8] 3)) := (by repeat (first | exact Below.refl _ _ | refine bl_plus ?_ | refine bl_alloc ?_ _ | refine bl_drew ?_))
    rw [plus_size, World.size_alloc] at hB
    have hB2 : ∀ k, ((plus (w.alloc (.cells #[.int .i64 b0, .int .i64 b1, .int .i64 b2, .int .i64 b3, .int .i64 b4, .int .i64 b5, .int .i64 b6, .int .i64 b7, .int .i64 b8] 23)) os1 n1).alloc (.cells #[.int .i64 b0, .int .i64 b1, .int .i64 b2, .int .i64 b3, .int .i64 b4, .int .i64 b5, .int .i64 b6, .int .i64 b7, .int .i64 b8] 3)).cell? ⟨w.heap.size + 1 + os1.size, k, none⟩ = (ints ns)[k]? := fun k => by rw [hB.cell k, HNI.out]
    have hlt : w.heap.size + 1 + os1.size < ((plus (w.alloc (.cells #[.int .i64 b0, .int .i64 b1, .int .i64 b2, .int .i64 b3, .int .i64 b4, .int .i64 b5, .int .i64 b6, .int .i64 b7, .int .i64 b8] 23)) os1 n1).alloc (.cells #[.int .i64 b0, .int .i64 b1, .int .i64 b2, .int .i64 b3, .int .i64 b4, .int .i64 b5, .int .i64 b6, .int .i64 b7, .int .i64 b8] 3)).heap.size := by simp [plus_size]
    have hPT := powTab_below HT.out hbw
    clear hB
    generalize ((plus (w.alloc (.cells #[.int .i64 b0, .int .i64 b1, .int .i64 b2, .int .i64 b3, .int .i64 b4, .int .i64 b5, .int .i64 b6, .int .i64 b7, .int .i64 b8] 23)) os1 n1).alloc (.cells #[.int .i64 b0, .int .i64 b1, .int .i64 b2, .int .i64 b3, .int .i64 b4, .int .i64 b5, .int .i64 b6, .int .i64 b7, .int .i64 b8] 3)) = W at *
    generalize w.heap.size + 1 + os1.size = gI at *
    have HB2 := hide hB2
    have HBW := hide hbw
    have HPT := hide hPT
    clear hB2 hbw hPT HT HCK
    go_loopw [5, 33] (fun v i wr => ∃ (k : Nat) (A : Option Addr) (c : Nat) (os : Array Obj) (n : Nat), k ≤ 9 ∧ i = .int .i64 k ∧ v = .slice A k c ∧ Hid (OwnK 1 9 wr W.heap.size (.slice A k c) k ((ss.map Value.string).take k)) ∧ wr = plus W os n) (fun _ i _ => 9 - (intOf i).toNat)
    case atStart => exact ⟨0, none, 0, #[], _, by omega, rfl, rfl, hide (by rw [List.take_zero]; exact OwnK.empty), plus_nil.symm⟩
    case round =>
      obtain ⟨k, A, c, os, n, hk, rfl, rfl, HS, rfl⟩ := hrel
      by_cases hlt9 : k < 9
      · have hkn : k < ns.length := by rw [H9.out]; exact hlt9
        have hcell : W.cell? ⟨gI, k, none⟩ = some (.int .i64 ns[k]) := by rw [HB2.out, ints_get hkn]
        have hb := HNB.out k hkn
        have htk : (ss.map Value.string).take (k + 1) = (ss.map Value.string).take k ++ [.string (itS ns[k])] := by
          rw [List.take_succ_eq_append_getElem (by rw [List.length_map, HSL.out]; exact hlt9), List.getElem_map]
          simp only [HSO.out, List.getElem_map]
        have HTK := hide htk
        obtain ⟨v0, v1⟩ := hb
        generalize ns[k] = v at *
        have HIT := hide (fun w ht => Tryd.itoa_any v (by omega) (by omega) w ht)
        have hits : (⟨(Lib.itoa v).toArray⟩ : ByteArray) = itS v := rfl
        rw [hits] at HIT
        clear htk hits hkn v0 v1
        generalize itS v = t at *
        have i1 : (k : Int) < 9 := by omega
        go_wp2_with (first
          | (go_at_call 13; refine (HIT.out _ (powTab_below HPT.out (by repeat (first | exact Below.refl _ _ | refine bl_plus ?_ | refine bl_alloc ?_ _ | refine bl_drew ?_)))).mono ?_; rintro e w' ⟨rfl, os2, n2, rfl⟩)
          | (at_builtin; refine wpList_append_k rfl (.tmp 37) (.tmp 40) rfl rfl Tryd.underlying33 HIP.out.1 HIP.out.2.1 HIP.out.2.2.1 (by decide) rfl (by have := HIP.out.2.2.2; omega) W.heap.size k (.slice A k c) ((ss.map Value.string).take k) [.string t] _ rfl (by repeat (first | with_reducible exact HS.out | with_reducible refine OwnK.alloc ?_ _ | with_reducible refine OwnK.plus ?_ _ _)) rfl (by intro u hu; simp only [List.mem_cons, List.not_mem_nil, or_false] at hu; subst hu; rfl) rfl (new1_at (by simp only [plus_size])) (by omega) (by simp only [World.size_alloc, plus_size]; omega) ?_; intro v' w1 hown1 hgr1 hfr1; obtain ⟨os9, n9, rfl⟩ := grown_plus (L := W) (by repeat (first | exact Below.refl _ _ | refine bl_plus ?_ | refine bl_alloc ?_ _ | refine bl_drew ?_)) hgr1 (fun q hq => (HS.out.lt q hq).1); obtain ⟨A1, c1, rfl, _⟩ := hown1.form; have HN := hide hown1; clear hown1 hgr1 hfr1))
        go_roundw
        case rel => exact ⟨k + 1, A1, c1, _, _, hlt9, by go_num, rfl, hide (by rw [HTK.out]; exact HN.out), rfl⟩
        case measure => simp [intOf]; omega
      · have hk9 : k = 9 := by omega
        subst hk9
        have hs2 := HS.out
        rw [List.take_of_length_le (by rw [List.length_map, HSL.out]; omega)] at hs2
        obtain ⟨h1, h2, b, rfl, hb, hcells⟩ := strs_cells hs2 (by omega)
        have HJ := hide (Tryd.join_any b 0 c ss ⟨#[32]⟩ (plus W os n) hcells hb (by rw [h1]; omega) (by rw [h1]; exact h2) HFIT.out)
        rw [h1, ← HX.out] at HJ
        clear hs2 hcells hb h1 h2 HS
        go_wp2_with (go_at_call 14; refine HJ.out.mono ?_; rintro e w' ⟨rfl, hbl⟩; obtain ⟨os5, n5, rfl⟩ := below_plus hbl; clear hbl)
        go_ret2
        exact ⟨rfl, bl_plus (bl_plus HBW.out)⟩
  · rw [if_neg he]
    have hne : (x.err != 0) = true := bne_iff_ne.2 he
    clear ht hni
    generalize x.err = r at *
    unfold St.val at hck ⊢
    have HCK := hide hck
    clear hck
    go_enter Tryd.func5, Tryd.ntmps5
    go_wp2_with (go_at_call 9; refine (HCK.out _).mono ?_; rintro e w' ⟨rfl, hbl⟩; obtain ⟨os1, n1, rfl⟩ := below_plus hbl; clear hbl)
    go_ret2
    exact ⟨rfl, (by repeat (first | exact Below.refl _ _ | refine bl_plus ?_ | refine bl_alloc ?_ _ | refine bl_drew ?_))⟩

end Go.Proofs.YtplmcpecffjheaaDoor
