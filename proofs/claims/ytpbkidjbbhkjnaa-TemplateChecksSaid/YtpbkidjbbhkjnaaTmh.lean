/-
  WALKS: the names of a template's fields, in the program and in the reference.
-/
import Derived.Test.YtpbkidjbbhkjnaaTmg
import Derived.Test.YtpbkidjbbhkjnaaTmf
namespace Go.Proofs.Ytpbkidjbbhkjnaa
open Go.RowKit Go.Sort

theorem OwnK.low {K : Nat} {e : TypeId} {w : World} {base b2 : Nat} {v : Value} {n : Nat} {xs : List Value} (h : OwnK K e w base v n xs) (hb : b2 ≤ base) : OwnK K e w b2 v n xs := by
  obtain ⟨h0, A, c, hv, h1, h2, h3⟩ := h
  refine ⟨h0, A, c, hv, h1, h2, ?_⟩
  rcases h3 with h3 | ⟨g, cur, a, b, d⟩
  · exact .inl h3
  · exact .inr ⟨g, cur, a, Nat.le_trans hb b, d⟩
theorem OwnK.clip {K : Nat} {e : TypeId} {w : World} {base : Nat} {A : Option Addr} {n c : Nat} {xs : List Value} (h : OwnK K e w base (.slice A n c) n xs) : OwnK K e w base (.slice A n n) n xs ∧ n ≤ c ∧ c ≤ maxLen ∧ (A = none → c = 0) ∧ (∀ a, A = some a → ∃ g, a = ⟨g, 0, none⟩) := by
  obtain ⟨h0, A', c', hv, h1, h2, h3⟩ := h
  injection hv with e1 _ e3
  subst e1 e3
  refine ⟨⟨h0, A, n, rfl, Nat.le_refl _, by omega, ?_⟩, h1, h2, ?_, ?_⟩
  · rcases h3 with ⟨a, b, d⟩ | ⟨g, cur, a, b, d, f, k⟩
    · exact .inl ⟨a, b, b⟩
    · exact .inr ⟨g, cur, a, b, d, Nat.le_trans (Nat.mul_le_mul_right _ h1) f, k⟩
  · intro hA
    rcases h3 with ⟨a, b, d⟩ | ⟨g, cur, a, _⟩
    · exact d
    · rw [hA] at a; cases a
  · intro a hA
    rcases h3 with ⟨b, _⟩ | ⟨g, cur, b, _⟩
    · rw [hA] at b; cases b
    · rw [hA] at b; exact ⟨g, Option.some.inj b⟩
theorem compactS_n (w : World) (base c n : Nat) (A : Option Addr) (ss : List (List UInt8)) (hn : ss.length = n) (h : OwnK 1 9 w base (.slice A n c) n (ss.map encStr)) (hl : n ≤ 9223372036854775807) :
    Calls Try.prog 27 #[.slice A n c] w fun e w' => e = .returned (.slice A (Lib.compact ss).length c) ∧ OwnK 1 9 w' base (.slice A (Lib.compact ss).length c) (Lib.compact ss).length ((Lib.compact ss).map encStr) ∧ w.grownBy w' (Value.slice A n c).ownBlock := by
  subst hn
  exact compactS_any w base c A ss h hl
theorem namesL_any (A : Option Addr) (c : Nat) (ps : List Pc) (w : World) (l : List (List UInt8)) (hA : PcAt w A ps) (hp : ps.length ≤ 400001) (hl : (pcNames ps).map (·.data.toList) = l) :
    Calls Try.prog 24 #[.slice A ps.length c] w fun e w' => Below w.heap.size w w' ∧ ∃ A2 c2, e = .returned (.slice A2 l.length c2) ∧ OwnK 1 9 w' w.heap.size (.slice A2 l.length c2) l.length (l.map encStr) := by
  refine (names_any A c ps w hA hp).mono ?_
  rintro e w' ⟨hb, A2, c2, rfl, hown⟩
  rw [strV_enc, hl] at hown
  have hn : (pcNames ps).length = l.length := by rw [← hl, List.length_map]
  rw [hn] at hown ⊢
  exact ⟨hb, A2, c2, rfl, hown⟩
theorem tq_len {s : ByteArray} (h : tq s = (0, 0)) : (tm s 0).1.length ≤ 40 := by
  unfold tq at h
  split at h
  · cases h
  · split at h
    · cases h
    · split at h
      · cases h
      · omega

set_option maxHeartbeats 3200000 in
set_option maxRecDepth 100000 in
theorem fields_any (s : ByteArray) (w : World) : Calls Try.prog 8 #[.string s] w (FsOut s w) := by
  have HRT := hide (readTemplate_any s w)
  unfold RtOut at HRT
  have hc := tq_cases s
  have HPO : Hid ((∀ w', (tq s).2 ≠ 0 → Below w.heap.size w w' → FsOut s w (.returned (.tuple #[.slice none 0 0, .int .i64 ((tq s).2 : Nat)])) w') ∧
      (∀ A c w', tq s = (0, 0) → OwnK 1 9 w' w.heap.size (.slice A (nmList s).length c) (nmList s).length ((nmList s).map encStr) → Below w.heap.size w w' → FsOut s w (.returned (.tuple #[.slice A (nmList s).length c, .int .i64 0])) w')) :=
    hide ⟨fun w' h hb => ⟨hb, .inl ⟨h, rfl⟩⟩, fun A c w' h ho hb => ⟨hb, .inr ⟨h, A, c, rfl, ho⟩⟩⟩
  generalize FsOut s w = PO at *
  rcases hc with hc | hc
  · have HP2 := hide (show Calls Try.prog 22 #[.string s] w (fun e w' => Below w.heap.size w w' ∧ ∃ A c, ∃ ps : List Pc, e = .returned (.tuple #[.slice A ps.length c, .int .i64 0, .int .i64 0]) ∧ PcAt w' A ps ∧ pcNames ps = (tm s 0).1 ∧ ps.length ≤ 400001) from HRT.out.mono (by
      rintro e w' ⟨hbl, (⟨hq2, _⟩ | ⟨_, A, c, ps, rfl, hx⟩)⟩
      · exact (hq2 (by rw [hc])).elim
      · exact ⟨hbl, A, c, ps, rfl, hx⟩))
    clear HRT
    have hlen := tq_len hc
    have hnl : nmList s = Lib.compact (srt ((tm s 0).1.map (·.data.toList))) := rfl
    have hll : ((tm s 0).1.map (·.data.toList)).length = (tm s 0).1.length := List.length_map ..
    have HNL := hide (fun ps (h : pcNames ps = (tm s 0).1) => (by rw [h] : (pcNames ps).map (·.data.toList) = (tm s 0).1.map (·.data.toList)))
    have HOK := hide (HPO.out.2 · · · hc)
    rw [hnl] at HOK
    generalize (tm s 0).1.map (·.data.toList) = l at *
    have HLL := hide (show l.length ≤ 40 by omega)
    clear HPO hc hlen hnl hll
    go_enter Try.func8, Try.ntmps8
    go_wp2_with (first
      | (go_at_call 22; refine HP2.out.mono ?_; rintro e w' ⟨hbl, A, c, ps, rfl, hat, hnm, hps⟩; obtain ⟨os1, n1, rfl⟩ := below_plus hbl; have HNM := hide (namesL_any A c ps _ l hat hps (HNL.out ps hnm)); clear hat hnm hps hbl)
      | (go_at_call 24; refine HNM.out.mono ?_; rintro e w' ⟨hbl, A2, c2, rfl, hown⟩; obtain ⟨os2, n2, rfl⟩ := below_plus hbl; have HS := hide (hown.low (b2 := w.heap.size) (by rw [plus_size]; omega)); clear hbl hown HNM)
      | (go_at_call 25; refine (sortS_any _ _ _ _ _ HS.out (by have := HLL.out; omega)).mono ?_; rintro e w' ⟨rfl, hown, hgr⟩; obtain ⟨os3, n3, rfl⟩ := grown_plus (L := w) (by repeat (first | exact Below.refl _ _ | refine bl_plus ?_ | refine bl_alloc ?_ _ | refine bl_drew ?_ | refine bl_drewN ?_ _)) hgr (fun q hq => (HS.out.lt q hq).1); have HS2 := hide hown; clear hown hgr HS)
      | (go_at_call 27; refine (compactS_n _ _ _ _ _ _ (srt_len _) HS2.out (by have := HLL.out; omega)).mono ?_; rintro e w' ⟨rfl, hown, hgr⟩; obtain ⟨os4, n4, rfl⟩ := grown_plus (L := w) (by repeat (first | exact Below.refl _ _ | refine bl_plus ?_ | refine bl_alloc ?_ _ | refine bl_drew ?_ | refine bl_drewN ?_ _)) hgr (fun q hq => (HS2.out.lt q hq).1); have HS3 := hide hown; clear hown hgr HS2)
      | (go_at_call 26; have HC3 := HS3.out.clip; refine (clipS_any _ _ _ _ HC3.2.1 HC3.2.2.1 HC3.2.2.2.1 HC3.2.2.2.2).mono ?_; rintro e w' ⟨rfl, rfl⟩))
    exact HOK.out _ _ _ HS3.out.clip.1 (by repeat (first | exact Below.refl _ _ | refine bl_plus ?_ | refine bl_alloc ?_ _ | refine bl_drew ?_ | refine bl_drewN ?_ _))
  · have HP2 := hide (show Calls Try.prog 22 #[.string s] w (fun e w' => Below w.heap.size w w' ∧ e = .returned (.tuple #[.slice none 0 0, .int .i64 ((tq s).1 : Nat), .int .i64 ((tq s).2 : Nat)])) from HRT.out.mono (by
      rintro e w' ⟨hbl, (⟨_, rfl⟩ | ⟨hq2, _⟩)⟩
      · exact ⟨hbl, rfl⟩
      · exact (hc (by rw [hq2])).elim))
    clear HRT
    have HER := hide (HPO.out.1 · hc)
    clear HPO
    generalize tq s = R at *
    obtain ⟨q, r⟩ := R
    simp only at hc
    dsimp only at HP2 HER
    have hr : ((r : Int) != 0) = true := bne_iff_ne.2 (by omega)
    have hr2 : (r : Int) ≠ 0 := by omega
    clear hc
    go_enter Try.func8, Try.ntmps8
    go_wp2_with (go_at_call 22; refine HP2.out.mono ?_; rintro e w' ⟨hbl, rfl⟩; obtain ⟨os1, n1, rfl⟩ := below_plus hbl; clear hbl)
    exact HER.out _ (by repeat (first | exact Below.refl _ _ | refine bl_plus ?_ | refine bl_alloc ?_ _ | refine bl_drew ?_ | refine bl_drewN ?_ _))

/-- What TemplateFault hands back. -/
def TfOut (s : ByteArray) (w : World) (e : Ending) (w' : World) : Prop :=
  Below w.heap.size w w' ∧ (((tq s).2 ≠ 0 ∧ e = .returned (.tuple #[.slice none 0 0, .int .i64 ((tq s).1 : Nat), .int .i64 ((tq s).2 : Nat)])) ∨
    (tq s = (0, 0) ∧ ∃ A c ps, e = .returned (.tuple #[.slice A ps.length c, .int .i64 0, .int .i64 0]) ∧ FdAt w' A ps ∧ fdNames ps = (tm s 0).1 ∧ ps.length ≤ 400001))

set_option maxHeartbeats 3200000 in
set_option maxRecDepth 100000 in
theorem templateFault_any (s : ByteArray) (w : World) : Calls Try.prog 7 #[.string s] w (TfOut s w) := by
  have HPO : Hid ((∀ (q r : Nat) (w' : World), tq s = (q, r) → r ≠ 0 → Below w.heap.size w w' → TfOut s w (.returned (.tuple #[.slice none 0 0, .int .i64 (q : Nat), .int .i64 (r : Nat)])) w') ∧
      (∀ (A : Option Addr) (c : Nat) (ps : List Fd) (w' : World), tq s = (0, 0) → FdAt w' A ps → fdNames ps = (tm s 0).1 → ps.length ≤ 400001 → Below w.heap.size w w' → TfOut s w (.returned (.tuple #[.slice A ps.length c, .int .i64 0, .int .i64 0])) w')) :=
    hide ⟨fun q r w' h hr hb => ⟨hb, .inl ⟨by rw [h]; exact hr, by rw [h]⟩⟩, fun A c ps w' h1 h2 h3 h4 hb => ⟨hb, .inr ⟨h1, A, c, ps, rfl, h2, h3, h4⟩⟩⟩
  generalize TfOut s w = PO at *
  by_cases h : 400000 < s.size
  · have hT := tq_large h
    go_enter Try.func7, Try.ntmps7
    go_wp2
    exact HPO.out.1 0 4 _ hT (by decide) (by repeat (first | exact Below.refl _ _ | refine bl_plus ?_ | refine bl_alloc ?_ _ | refine bl_drew ?_ | refine bl_drewN ?_ _))
  · have HPI := hide (templateOf_any s w (by omega))
    have HSZ := hide (show s.size ≤ 400000 by omega)
    unfold ToOut at HPI
    cases hq : (tm s 0).2 with
    | some q =>
      rw [hq] at HPI
      have hT := hide (tq_bad (by omega) hq)
      clear hq
      have HP2 := hide (show Calls Try.prog 23 #[.string s] w (fun e w' => e = .returned (.tuple #[.slice none 0 0, .int .i64 (q : Nat), .bool false]) ∧ Below w.heap.size w w') from HPI.out.mono (by
        rintro e w' ⟨hbl, (⟨q2, hq2, rfl⟩ | ⟨hq2, _⟩)⟩
        · cases hq2
          exact ⟨rfl, hbl⟩
        · cases hq2))
      clear HPI
      go_enter Try.func7, Try.ntmps7
      go_wp2_with (go_at_call 23; refine HP2.out.mono ?_; rintro e w' ⟨rfl, hbl⟩; obtain ⟨os1, n1, rfl⟩ := below_plus hbl; clear hbl)
      exact HPO.out.1 q 8 _ hT.out (by decide) (by repeat (first | exact Below.refl _ _ | refine bl_plus ?_ | refine bl_alloc ?_ _ | refine bl_drew ?_ | refine bl_drewN ?_ _))
    | none =>
      rw [hq] at HPI
      have HP2 := hide (show Calls Try.prog 23 #[.string s] w (fun e w' => Below w.heap.size w w' ∧ ∃ A c ps, e = .returned (.tuple #[.slice A (List.length ps) c, .int .i64 0, .bool true]) ∧ FdAt w' A ps ∧ fdNames ps = (tm s 0).1 ∧ ps.length = 2 * (fdNames ps).length + 1 ∧ ps.length ≤ 400001) from HPI.out.mono (by
        rintro e w' ⟨hbl, (⟨q2, hq2, rfl⟩ | ⟨_, hr⟩)⟩
        · cases hq2
        · exact ⟨hbl, hr⟩))
      clear HPI
      by_cases hn : 40 < (tm s 0).1.length
      · have hT := hide (tq_many (by omega) hq hn)
        have HN := hide hn
        clear hq hn
        go_enter Try.func7, Try.ntmps7
        go_wp2_with (go_at_call 23; refine HP2.out.mono ?_; rintro e w' ⟨hbl, A, c, ps, rfl, hat, hnm, hln, hlen⟩; obtain ⟨os1, n1, rfl⟩ := below_plus hbl; have hcnt : 40 < (ps.length : Int) / 2 := (by have := HN.out; rw [← hnm] at this; omega); clear hat hnm hbl hln)
        exact HPO.out.1 0 4 _ hT.out (by decide) (by repeat (first | exact Below.refl _ _ | refine bl_plus ?_ | refine bl_alloc ?_ _ | refine bl_drew ?_ | refine bl_drewN ?_ _))
      · have hT := hide (tq_ok (by omega) hq (by omega))
        have HN := hide (show (tm s 0).1.length ≤ 40 by omega)
        clear hq hn
        go_enter Try.func7, Try.ntmps7
        go_wp2_with (go_at_call 23; refine HP2.out.mono ?_; rintro e w' ⟨hbl, A, c, ps, rfl, hat, hnm, hln, hlen⟩; obtain ⟨os1, n1, rfl⟩ := below_plus hbl; have hcnt : ¬ 40 < (ps.length : Int) / 2 := (by have := HN.out; rw [← hnm] at this; omega); have HAT := hide hat; have HNA := hide hnm; have HLE := hide hlen; clear hat hnm hbl hln)
        exact HPO.out.2 A c ps _ hT.out (HAT.out.below (by repeat (first | exact Below.refl _ _ | refine bl_plus ?_ | refine bl_alloc ?_ _ | refine bl_drew ?_ | refine bl_drewN ?_ _))) HNA.out HLE.out (by repeat (first | exact Below.refl _ _ | refine bl_plus ?_ | refine bl_alloc ?_ _ | refine bl_drew ?_ | refine bl_drewN ?_ _))

end Go.Proofs.Ytpbkidjbbhkjnaa
