/-
  WALKS: the functions that see the days of a rule: what each keeps.
-/
import Derived.Test.YtpbkidjbbhkjnaaRbi
import Derived.Test.YtpbkidjbbhkjnaaOwnG
namespace Go.Proofs.Ytpbkidjbbhkjnaa
open Go.RowKit Cal

theorem turned_set {T : World → Nat → Prop} {w : World} {g : Nat} {v : Value} (h : T w g) (h2 : ∀ b, T (w.setCell ⟨g, 0, none⟩ v) b → T w b) : Turned T w (w.setCell ⟨g, 0, none⟩ v) :=
  ⟨rfl, rfl, rfl, by simp [World.setCell], fun b _ hn => Below.heap_setCell w ⟨g, 0, none⟩ v b (fun e => hn (by rw [e]; exact h)), fun b hb => .inl (h2 b hb)⟩
theorem Blk.set0 {w : World} {g : Nat} {t : TypeId} {u : Value} (h : Blk w g t #[u]) (v : Value) : Blk (w.setCell ⟨g, 0, none⟩ v) g t #[v] := h.set_ 0 v

/-! ### Occurs -/
def OccK (g gd : Nat) (day : Int) (l : List Int) (w : World) : Prop := Blk w g 4 #[.bool (l.contains day)] ∧ Blk w gd 3 #[.int .i64 day] ∧ g ≠ gd
set_option maxHeartbeats 1600000 in
theorem sees_occurs (g gd : Nat) (day : Int) (B : Nat) (hg : B ≤ g) : Sees 38 #[.pointer (some ⟨g, 0, none⟩), .pointer (some ⟨gd, 0, none⟩)] (fun d => decide (d < day)) (OccK g gd day) (fun _ b => b = g) B := by
  refine ⟨fun args w => Go.Proofs.enters_of Try.func38 (by kernel_rfl) rfl args w, ?_, fun l w w' h hb => ⟨⟨h.1.below hb h.1.lt, h.2.1.below hb h.2.1.lt, h.2.2⟩, fun _ h => h⟩, fun l w b h hb => by subst hb; exact ⟨hg, h.1.lt⟩⟩
  intro l d w hi _ _ _ _
  obtain ⟨k1, k2, k3⟩ := hi
  have c1 := k1.cell 0
  have c2 := k2.cell 0
  have f1 := k1.frozen 0
  simp only [List.getElem?_toArray, List.getElem?_cons_zero] at c1 c2
  have hct : (l ++ [d]).contains day = (l.contains day || day == d) := by rw [Bool.eq_iff_iff]; simp
  have HC := hide hct
  have K1 := hide k1
  have K2 := hide k2
  have HT := hide (fun (x : Value) => turned_set (T := fun _ b => b = g) (w := w) (v := x) rfl (fun _ h => h))
  clear k1 k2 hct
  generalize l.contains day = q at *
  show Calls _ _ #[.int .i64 d, .pointer (some ⟨g, 0, none⟩), .pointer (some ⟨gd, 0, none⟩)] _ _
  cases q with
  | true =>
    go_enter Try.func38, Try.ntmps38
    go_wp2
    go_ret
    exact ⟨rfl, ⟨by rw [HC.out]; exact K1.out.set0 _, K2.out.far (fun e => k3 e.symm) _, k3⟩, HT.out _⟩
  | false =>
    go_enter Try.func38, Try.ntmps38
    go_wp2
    go_ret
    refine ⟨rfl, ⟨?_, K2.out.far (fun e => k3 e.symm) _, k3⟩, HT.out _⟩
    rw [HC.out, Bool.false_or, show (day == d) = (d == day) from Bool.beq_comm]
    exact K1.out.set0 _

/-! ### Number -/
def cntLe (day : Int) (l : List Int) : Nat := (l.filter (fun x => decide (x ≤ day))).length
def NumK (g gd : Nat) (day : Int) (l : List Int) (w : World) : Prop := Blk w g 3 #[.int .i64 (cntLe day l)] ∧ Blk w gd 3 #[.int .i64 day] ∧ g ≠ gd
theorem cntLe_le (day : Int) (l : List Int) : cntLe day l ≤ l.length := List.length_filter_le _ _
theorem cntLe_snoc (day d : Int) (l : List Int) : cntLe day (l ++ [d]) = cntLe day l + if d ≤ day then 1 else 0 := by
  unfold cntLe
  rw [List.filter_append, List.length_append]
  by_cases h : d ≤ day <;> simp [h]
set_option maxHeartbeats 1600000 in
theorem sees_number (g gd : Nat) (day : Int) (B : Nat) (hg : B ≤ g) : Sees 44 #[.pointer (some ⟨gd, 0, none⟩), .pointer (some ⟨g, 0, none⟩)] (fun d => decide (d < day)) (NumK g gd day) (fun _ b => b = g) B := by
  refine ⟨fun args w => Go.Proofs.enters_of Try.func44 (by kernel_rfl) rfl args w, ?_, fun l w w' h hb => ⟨⟨h.1.below hb h.1.lt, h.2.1.below hb h.2.1.lt, h.2.2⟩, fun _ h => h⟩, fun l w b h hb => by subst hb; exact ⟨hg, h.1.lt⟩⟩
  intro l d w hi _ hlen _ _
  obtain ⟨k1, k2, k3⟩ := hi
  have c1 := k1.cell 0
  have c2 := k2.cell 0
  have f1 := k1.frozen 0
  simp only [List.getElem?_toArray, List.getElem?_cons_zero] at c1 c2
  have hct := cntLe_snoc day d l
  have hle := cntLe_le day l
  have HC := hide hct
  have K1 := hide k1
  have K2 := hide k2
  have HT := hide (fun (x : Value) => turned_set (T := fun _ b => b = g) (w := w) (v := x) rfl (fun _ h => h))
  clear k1 k2 hct
  have HQ := hide (rfl : cntLe day (l ++ [d]) = cntLe day (l ++ [d]))
  generalize cntLe day l = q at *
  show Calls _ _ #[.int .i64 d, .pointer (some ⟨gd, 0, none⟩), .pointer (some ⟨g, 0, none⟩)] _ _
  by_cases hd : d ≤ day
  · go_enter Try.func44, Try.ntmps44
    go_wp2
    go_ret
    refine ⟨rfl, ⟨?_, K2.out.far (fun e => k3 e.symm) _, k3⟩, HT.out _⟩
    rw [HC.out, if_pos hd]
    exact K1.out.set0 _
  · go_enter Try.func44, Try.ntmps44
    go_wp2
    go_ret
    refine ⟨rfl, ⟨?_, K2.out, k3⟩, Turned.refl _⟩
    rw [HC.out, if_neg (by omega)]
    exact K1.out

/-! ### Before -/
def lastLt (day : Int) (l : List Int) : Int := ((l.filter (fun x => decide (x < day))).getLast?).getD (-1)
def BefK (g gd : Nat) (day : Int) (l : List Int) (w : World) : Prop := Blk w g 3 #[.int .i64 (lastLt day l)] ∧ Blk w gd 3 #[.int .i64 day] ∧ g ≠ gd
theorem lastLt_snoc (day d : Int) (l : List Int) : lastLt day (l ++ [d]) = if d < day then d else lastLt day l := by
  unfold lastLt
  rw [List.filter_append]
  by_cases h : d < day <;> simp [h]
set_option maxHeartbeats 1600000 in
theorem sees_before (g gd : Nat) (day : Int) (B : Nat) (hg : B ≤ g) : Sees 43 #[.pointer (some ⟨gd, 0, none⟩), .pointer (some ⟨g, 0, none⟩)] (fun d => decide (d < day)) (BefK g gd day) (fun _ b => b = g) B := by
  refine ⟨fun args w => Go.Proofs.enters_of Try.func43 (by kernel_rfl) rfl args w, ?_, fun l w w' h hb => ⟨⟨h.1.below hb h.1.lt, h.2.1.below hb h.2.1.lt, h.2.2⟩, fun _ h => h⟩, fun l w b h hb => by subst hb; exact ⟨hg, h.1.lt⟩⟩
  intro l d w hi _ hlen _ _
  obtain ⟨k1, k2, k3⟩ := hi
  have c1 := k1.cell 0
  have c2 := k2.cell 0
  have f1 := k1.frozen 0
  simp only [List.getElem?_toArray, List.getElem?_cons_zero] at c1 c2
  have hct := lastLt_snoc day d l
  have HC := hide hct
  have K1 := hide k1
  have K2 := hide k2
  have HT := hide (fun (x : Value) => turned_set (T := fun _ b => b = g) (w := w) (v := x) rfl (fun _ h => h))
  clear k1 k2 hct
  generalize lastLt day l = q at *
  show Calls _ _ #[.int .i64 d, .pointer (some ⟨gd, 0, none⟩), .pointer (some ⟨g, 0, none⟩)] _ _
  by_cases hd : d < day
  · go_enter Try.func43, Try.ntmps43
    go_wp2
    go_ret
    refine ⟨ret_bool (by simp [hd]), ⟨?_, K2.out.far (fun e => k3 e.symm) _, k3⟩, HT.out _⟩
    rw [HC.out, if_pos hd]
    exact K1.out.set0 _
  · go_enter Try.func43, Try.ntmps43
    go_wp2
    go_ret
    refine ⟨ret_bool (by simp [hd]), ⟨?_, K2.out, k3⟩, Turned.refl _⟩
    rw [HC.out, if_neg (by omega)]
    exact K1.out

/-! ### next -/
def nxK (gd gf go_ : Nat) (day : Int) (l : List Int) (w : World) : Prop :=
  Blk w gf 3 #[.int .i64 ((l.find? (fun x => decide (day < x))).getD 0)] ∧ Blk w go_ 4 #[.bool (l.find? (fun x => decide (day < x))).isSome] ∧ Blk w gd 3 #[.int .i64 day] ∧ gf ≠ go_ ∧ gd ≠ gf ∧ gd ≠ go_
set_option maxHeartbeats 1600000 in
theorem sees_next (gd gf go_ : Nat) (day : Int) (B : Nat) (hf : B ≤ gf) (ho : B ≤ go_) : Sees 63 #[.pointer (some ⟨gd, 0, none⟩), .pointer (some ⟨gf, 0, none⟩), .pointer (some ⟨go_, 0, none⟩)] (fun d => decide (d ≤ day)) (nxK gd gf go_ day) (fun _ b => b = gf ∨ b = go_) B := by
  refine ⟨fun args w => Go.Proofs.enters_of Try.func63 (by kernel_rfl) rfl args w, ?_, fun l w w' h hb => ⟨⟨h.1.below hb h.1.lt, h.2.1.below hb h.2.1.lt, h.2.2.1.below hb h.2.2.1.lt, h.2.2.2⟩, fun _ h => h⟩, fun l w b h hb => by
    rcases hb with rfl | rfl
    · exact ⟨hf, h.1.lt⟩
    · exact ⟨ho, h.2.1.lt⟩⟩
  intro l d w hi hall hlen _ _
  have hnone : l.find? (fun x => decide (day < x)) = none := by
    rw [List.find?_eq_none]
    intro x hx h
    have h1 := hall x hx
    simp only [decide_eq_true_eq] at h h1
    omega
  have hap : (l ++ [d]).find? (fun x => decide (day < x)) = if day < d then some d else none := by
    rw [List.find?_append, hnone]
    by_cases h : day < d <;> simp [h]
  unfold nxK at hi ⊢
  rw [hnone] at hi
  rw [hap]
  obtain ⟨k1, k2, k3, n1, n2, n3⟩ := hi
  have c1 := k1.cell 0
  have c2 := k2.cell 0
  have c3 := k3.cell 0
  have f1 := k1.frozen 0
  have f2 := k2.frozen 0
  simp only [List.getElem?_toArray, List.getElem?_cons_zero] at c1 c2 c3
  have K1 := hide k1
  have K2 := hide k2
  have K3 := hide k3
  clear k1 k2 k3 hall hap hnone
  show Calls _ _ #[.int .i64 d, .pointer (some ⟨gd, 0, none⟩), .pointer (some ⟨gf, 0, none⟩), .pointer (some ⟨go_, 0, none⟩)] _ _
  have n4 : go_ ≠ gf := fun e => n1 e.symm
  by_cases hd : day < d
  · rw [if_pos hd]
    go_enter Try.func63, Try.ntmps63
    go_wp2
    go_ret
    refine ⟨ret_bool (by simp; omega), ⟨(K1.out.set0 _).far n1 _, (K2.out.far n4 _).set0 _, (K3.out.far n2 _).far n3 _, n1, n2, n3⟩, ?_⟩
    exact (turned_set (T := fun _ b => b = gf ∨ b = go_) (.inl rfl) (fun _ h => h)).trans (turned_set (T := fun _ b => b = gf ∨ b = go_) (.inr rfl) (fun _ h => h))
  · rw [if_neg hd]
    go_enter Try.func63, Try.ntmps63
    go_wp2
    go_ret
    exact ⟨rfl, ⟨K1.out, K2.out, K3.out⟩, Turned.refl _⟩

/-! ### between -/
theorem info_intB : (Try.prog.info? 3).map (fun i => (i.zero, i.size, i.bytes)) = some (some (.int .i64 0), 1, 8) := by kernel_rfl
def inFT (f t : Int) (l : List Int) : List Int := l.filter (fun x => decide (f ≤ x ∧ x ≤ t))
theorem inFT_snoc (f t d : Int) (l : List Int) : inFT f t (l ++ [d]) = inFT f t l ++ if f ≤ d ∧ d ≤ t then [d] else [] := by
  unfold inFT
  rw [List.filter_append]
  by_cases h : f ≤ d ∧ d ≤ t <;> simp [h]
def BtwK (gf gt gl : Nat) (f t : Int) (l : List Int) (w : World) : Prop :=
  Blk w gf 3 #[.int .i64 f] ∧ Blk w gt 3 #[.int .i64 t] ∧ gf ≠ gl ∧ gt ≠ gl ∧ gf < gl + 1 ∧ gt < gl + 1 ∧ ∃ A c, Blk w gl 33 #[.slice A (inFT f t l).length c] ∧ OwnK 1 3 w (gl + 1) (.slice A (inFT f t l).length c) (inFT f t l).length ((inFT f t l).map (Value.int .i64))
def BtwT (gl : Nat) (w : World) (b : Nat) : Prop := b = gl ∨ ∃ v, w.cell? ⟨gl, 0, none⟩ = some v ∧ v.ownBlock = some b
set_option maxHeartbeats 3200000 in
set_option maxRecDepth 100000 in
theorem sees_between (gf gt gl : Nat) (f t : Int) (B : Nat) (hl : B ≤ gl) : Sees 54 #[.pointer (some ⟨gf, 0, none⟩), .pointer (some ⟨gt, 0, none⟩), .pointer (some ⟨gl, 0, none⟩)] (fun d => decide (d < t)) (BtwK gf gt gl f t) (BtwT gl) B := by
  refine ⟨fun args w => Go.Proofs.enters_of Try.func54 (by kernel_rfl) rfl args w, ?_, ?_, ?_⟩
  · intro l d w hi hall hlen _ _
    unfold BtwK at hi ⊢
    have hsn := inFT_snoc f t d l
    have hle : (inFT f t l).length ≤ l.length := List.length_filter_le _ _
    rw [hsn]
    generalize inFT f t l = xs at *
    obtain ⟨k1, k2, n1, n2, n3, n4, A, c, k3, own⟩ := hi
    have c1 := k1.cell 0
    have c2 := k2.cell 0
    have c3 := k3.cell 0
    have f3 := k3.frozen 0
    simp only [List.getElem?_toArray, List.getElem?_cons_zero] at c1 c2 c3
    have K1 := hide k1
    have K2 := hide k2
    have K3 := hide k3
    have OW := hide own
    have C3 := hide c3
    clear k1 k2 k3 own hall hsn
    show Calls _ _ #[.int .i64 d, .pointer (some ⟨gf, 0, none⟩), .pointer (some ⟨gt, 0, none⟩), .pointer (some ⟨gl, 0, none⟩)] _ _
    obtain ⟨iI, hiI, hzI0, hzI1, hzI2⟩ := info_parts info_intB
    have HII := hide (And.intro hiI (And.intro hzI0 (And.intro hzI1 hzI2)))
    clear hiI hzI0 hzI1 hzI2
    by_cases hin : f ≤ d ∧ d ≤ t
    · rw [if_pos hin]
      obtain ⟨i1, i2⟩ := hin
      have HGS := hide (fun (g : Nat) (h : g < gl + 1) => (fun e1 => by have := (OW.out.lt g e1.symm).1; omega : some g ≠ (Value.slice A xs.length c).ownBlock))
      go_enter Try.func54, Try.ntmps54
      go_wp2_with (at_builtin; refine wpList_append_m rfl (.tmp 14) (.tmp 16) rfl rfl Try.underlying33 HII.out.1 HII.out.2.1 HII.out.2.2.1 (by decide) rfl (by have := HII.out.2.2.2; omega) (gl + 1) xs.length 1 (.slice A xs.length c) (xs.map (Value.int .i64)) [.int .i64 d] _ rfl (ownK_alloc OW.out _) (by decide) rfl (by intro u hu; simp only [List.mem_cons, List.not_mem_nil, or_false] at hu; rcases hu with rfl; rfl) rfl (newN_cells (cs := [_]) rfl) (by omega) (by have := K3.out.lt; simp only [World.size_alloc]; omega) ?_; intro v' w1 hown1 hgr1 hfr1; obtain ⟨A1, c7, rfl, _⟩ := ownK_form hown1; have hk3 := (K3.out.alloc _).grown hgr1 (HGS.out gl (by omega)); have d3 := hk3.cell 0; have g3 := hk3.frozen 0; have d2 := ((K2.out.alloc (.cells #[.int .i64 d] 3)).grown hgr1 (HGS.out gt n4)).cell 0; simp only [List.getElem?_toArray, List.getElem?_cons_zero] at d3 d2; have HK3 := hide hk3; have HN := hide hown1; have HGR := hide hgr1; have HFR := hide hfr1; clear hk3 hown1 hgr1 hfr1)
      go_ret
      have e : (xs ++ [d]).length = xs.length + 1 := by simp
      have hsz : w.heap.size < w1.heap.size := by have := HGR.out.size; simp only [World.size_alloc] at this; omega
      refine ⟨rfl, ⟨((K1.out.alloc _).grown HGR.out (HGS.out gf n3)).far n1 _, ((K2.out.alloc _).grown HGR.out (HGS.out gt n4)).far n2 _, n1, n2, n3, n4, A1, c7, ?_, ?_⟩, ?_⟩
      · rw [e]
        exact HK3.out.set0 _
      · rw [e, List.map_append]
        refine HN.out.kept (fun k hk => Below.heap_setCell _ ⟨gl, 0, none⟩ _ k (fun e2 => ?_))
        have := (HN.out.lt k hk).1
        simp only at e2
        omega
      · refine ⟨HGR.out.os, HGR.out.tape, HGR.out.output, by simp only [World.setCell, Array.size_modify]; omega, fun b hb hn => ?_, fun b hb => ?_⟩
        · have hb1 : b ≠ gl := fun e2 => hn (.inl e2)
          have hb2 : some b ≠ (Value.slice A xs.length c).ownBlock := fun e2 => hn (.inr ⟨_, C3.out, e2.symm⟩)
          rw [Below.heap_setCell _ ⟨gl, 0, none⟩ _ b hb1, HGR.out.block b (by simp only [World.size_alloc]; omega) hb2, Below.heap_alloc w _ b hb]
        · rcases hb with rfl | ⟨v, hv, hvb⟩
          · exact .inl (.inl rfl)
          · have hset := (HK3.out.set0 (.slice A1 (xs.length + 1) c7)).cell 0
            rw [hv] at hset
            simp only [List.getElem?_toArray, List.getElem?_cons_zero, Option.some.injEq] at hset
            subst hset
            rcases HFR.out with h1 | ⟨g, h1, h2⟩
            · exact .inl (.inr ⟨_, C3.out, by rw [← h1]; exact hvb⟩)
            · right
              rw [h1] at hvb
              injection hvb with hvb
              subst hvb
              simp only [World.size_alloc] at h2
              omega
    · rw [if_neg hin, List.append_nil]
      by_cases i1 : f ≤ d
      · have i2 : ¬ d ≤ t := fun h => hin ⟨i1, h⟩
        clear hin
        go_enter Try.func54, Try.ntmps54
        go_wp2
        go_ret
        exact ⟨rfl, ⟨K1.out, K2.out, A, c, K3.out, OW.out⟩, Turned.refl _⟩
      · clear hin
        go_enter Try.func54, Try.ntmps54
        go_wp2
        go_ret
        exact ⟨rfl, ⟨K1.out, K2.out, A, c, K3.out, OW.out⟩, Turned.refl _⟩
  · intro l w w' h hb
    obtain ⟨k1, k2, n1, n2, n3, n4, A, c, k3, own⟩ := h
    refine ⟨⟨k1.below hb k1.lt, k2.below hb k2.lt, n1, n2, n3, n4, A, c, k3.below hb k3.lt, own.kept (fun k hk => hb.block k (own.lt k hk).2)⟩, fun b h => ?_⟩
    rcases h with h | ⟨v, h1, h2⟩
    · exact .inl h
    · exact .inr ⟨v, by rw [← hb.cell (p := ⟨gl, 0, none⟩) k3.lt]; exact h1, h2⟩
  · intro l w b h hb
    obtain ⟨k1, k2, n1, n2, n3, n4, A, c, k3, own⟩ := h
    rcases hb with rfl | ⟨v, h1, h2⟩
    · exact ⟨hl, k3.lt⟩
    · have c3 := k3.cell 0
      rw [h1] at c3
      simp only [List.getElem?_toArray, List.getElem?_cons_zero, Option.some.injEq] at c3
      subst c3
      have := own.lt b h2
      omega

end Go.Proofs.Ytpbkidjbbhkjnaa
