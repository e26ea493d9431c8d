/-
  CONTRACTS: rows of names and of properties in the reference's way to bring properties together.
-/
import Derived.Test.YtdncmjlakmkfiaaGreatDoorMgu
import Derived.Test.YtdncmjlakmkfiaaGreatDoorMgo
import Derived.Test.YtdncmjlakmkfiaaGreatDoorMgh
set_option linter.all false
namespace Go.Proofs.YtdncmjlakmkfiaaGreatDoor
open Go.RowKit Go.Lib

/-- The first lists, one behind the other. -/
def catK (B A C : List PR) : Nat → List PR
  | 0 => []
  | k + 1 => catK B A C k ++ sel3 B A C k

theorem catK_mem {B A C : List PR} {x : ByteArray} : x ∈ (catK B A C 3).map (·.n) ↔ x ∈ allNames B A C := by
  unfold allNames
  rw [List.mem_map, List.mem_map]
  refine exists_congr fun p => and_congr_left fun _ => ?_
  show p ∈ (([] ++ B) ++ A) ++ C ↔ _
  simp only [List.mem_append, List.nil_append]
  exact or_assoc

theorem mgAll_sub {B A C : List PR} : ∀ (k : Nat) (nms : List ByteArray), k ≤ nms.length → List.Sublist ((mgAll B A C (nms.take k)).1.map (·.n)) (nms.take k)
  | 0, _, _ => by simp [mgAll]
  | k + 1, nms, h => by
    have ih := mgAll_sub (B := B) (A := A) (C := C) k nms (by omega)
    rw [mgAll_take B A C (by omega), List.take_succ_eq_append_getElem (by omega)]
    unfold mgStep
    simp only
    split
    · rw [List.map_append]
      exact ih.append (List.Sublist.refl _)
    · exact ih.trans (List.sublist_append_left _ _)

theorem mgAll_sorted {B A C : List PR} {nms : List ByteArray} (hr : Rise nms) (k : Nat) (hk : k ≤ nms.length) : Named (mgAll B A C (nms.take k)).1 ∧ (mgAll B A C (nms.take k)).1.Pairwise (fun p q => ¬ compareBytes (nameB q) (nameB p) < 0) := by
  have h1 : Rise (nms.take k) := List.Pairwise.sublist (List.take_sublist _ _) hr
  have h2 := List.Pairwise.sublist (mgAll_sub (B := B) (A := A) (C := C) k nms hk) h1
  rw [List.pairwise_map] at h2
  refine ⟨h2.imp fun {p q} h e => ?_, h2.imp fun {p q} h h9 => ?_⟩
  · have h8 : compareBytes p.n.data.toList p.n.data.toList < 0 := by rw [← e] at h; exact h
    have := cmpB_swap p.n.data.toList p.n.data.toList
    omega
  · have h8 := cmpB_swap (nameB p) (nameB q)
    have h7 : compareBytes (nameB p) (nameB q) < 0 := h
    omega

theorem boxV_int {w w' : World} (hg : ∀ b, HasI w b → w'.heap[b]? = w.heap[b]?) (hs : w.heap.size ≤ w'.heap.size) {g : Nat} {x : V} {A : Option Addr} {c : Nat} (h : BoxV w g x A c) : BoxV w' g x A c := by
  obtain ⟨h0, h1, h2, h3, h4, h5⟩ := h
  have hb : w'.heap[g]? = w.heap[g]? := hg g ⟨h5, _, _, h0⟩
  have hk : ∀ i, w'.cell? ⟨g, i, none⟩ = w.cell? ⟨g, i, none⟩ := fun i => World.cell?_of_block (w := w) hb
  exact ⟨(hk _).trans h0, (hk _).trans h1, (hk _).trans h2, (hk _).trans h3, (hk _).trans h4, Nat.lt_of_lt_of_le h5 hs⟩

/-- Names sorted. -/
theorem sortB_any (w : World) (base c : Nat) (A : Option Addr) (nm : List ByteArray) (h : OwnK 1 9 w base (.slice A nm.length c) nm.length (strV nm)) (hl : nm.length ≤ 1000) :
    Calls Tryz.prog 43 #[.slice A nm.length c] w fun e w' => e = .returned (.tuple #[]) ∧ OwnK 1 9 w' base (.slice A nm.length c) nm.length ((srt (nm.map (·.data.toList))).map encStr) ∧ w.grownBy w' (Value.slice A nm.length c).ownBlock := by
  have e9 : (nm.map (·.data.toList)).length = nm.length := List.length_map _
  have := sortS_any w base c A (nm.map (·.data.toList)) (by rw [e9, ← strV_enc]; exact h) (by rw [e9]; omega)
  rwa [e9] at this

/-- Sorted names, each once: they rise. -/
theorem compactB_any (w : World) (base c : Nat) (A : Option Addr) (nm : List ByteArray) (h : OwnK 1 9 w base (.slice A nm.length c) nm.length ((srt (nm.map (·.data.toList))).map encStr)) (hl : nm.length ≤ 1000) :
    Calls Tryz.prog 44 #[.slice A nm.length c] w fun e w' => ∃ nms : List ByteArray, e = .returned (.slice A nms.length c) ∧ Rise nms ∧ (∀ x, x ∈ nms ↔ x ∈ nm) ∧ nms.length ≤ nm.length ∧ SAt w' A nms ∧ w.grownBy w' (Value.slice A nm.length c).ownBlock := by
  have e9 : (srt (nm.map (·.data.toList))).length = nm.length := by rw [srt_len, List.length_map]
  have h2 := compactS_any w base c A (srt (nm.map (·.data.toList))) (by rw [e9]; exact h) (by rw [e9]; omega)
  rw [e9] at h2
  refine h2.mono ?_
  rintro e w' ⟨rfl, ho, hg⟩
  obtain ⟨hr, hm⟩ := rise_compact (nm.map (·.data.toList))
  have hlen : ((compact (srt (nm.map (·.data.toList)))).map bStr).length = (compact (srt (nm.map (·.data.toList)))).length := List.length_map _
  refine ⟨_, by rw [hlen], hr, fun x => ?_, ?_, ?_, hg⟩
  · rw [hm x, List.mem_map]
    exact ⟨fun ⟨y, hy, e⟩ => by rw [← data_inj e]; exact hy, fun h => ⟨x, h, rfl⟩⟩
  · rw [hlen, ← e9]
    exact compact_le _
  · rw [← strV_b] at ho
    have := (sAt_of_own ho).2.2
    exact this

/-- A value for a name behind all others. -/
theorem withM_any (A : Option Addr) (c : Nat) (l r : List PR) (x : ByteArray) (v : V) (A2 : Option Addr) (c2 : Nat) (w : World) (hA : PsAt w A l) (hlen : l.length ≤ 100) (hx : x.size ≤ maxLen) (hv : LAt w A2 v.l)
    (hn : Named l) (hb : ∀ p ∈ l, p.n ≠ x ∧ compareBytes (nameB p) x.data.toList < 0) (hs : l.Pairwise (fun p q => ¬ compareBytes (nameB q) (nameB p) < 0)) (hr : r = if v.k ≠ 0 then l ++ [⟨x, v⟩] else l) :
    Calls Tryz.prog 47 #[.slice A l.length c, .string x, v.arg A2 c2] w fun e w' => ∃ A3 c3, e = .returned (.slice A3 r.length c3) ∧ PsAt w' A3 r ∧ Below w.heap.size w w' := by
  obtain ⟨ps, hps, hpc⟩ := hA.open_
  subst hps
  rw [List.length_map] at hlen ⊢
  refine (withR_any A c ps x v A2 c2 w hpc hlen hx hv).mono ?_
  rintro e w' ⟨A3, c3, qs, rfl, hrow, hw, hbl⟩
  have h9 := with_last hw hn hb hs
  rw [← hr] at h9
  refine ⟨A3, c3, ?_, ?_, hbl⟩
  · rw [← h9, List.length_map]
  · rw [← h9]; exact hrow.psAt.2

end Go.Proofs.YtdncmjlakmkfiaaGreatDoor
