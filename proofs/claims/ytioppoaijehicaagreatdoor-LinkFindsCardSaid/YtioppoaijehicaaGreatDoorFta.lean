/-
  WALKS: letters made small, the program's and the reference's.
-/
import Derived.Test.YtioppoaijehicaaGreatDoorInts
import Derived.Laws.IdiomStrings
import Derived.Laws.BytesArg
import Derived.Lib.SplitLaws
import Derived.Lib.Join
set_option linter.all false
namespace Go.Proofs.YtioppoaijehicaaGreatDoor
open Go.RowKit

def lowI (n : Int) : Int := if 65 ≤ n ∧ n ≤ 90 then n + 32 else n

def lowS (s : ByteArray) : ByteArray := strOfNums (s.data.toList.map fun c => lowI c.toNat)

/-- The bytes of a string in a block of the call, the first k of them made small. -/
structure LowAt (w wr : World) (s : ByteArray) (cap k : Nat) : Prop where
  bel : Below w.heap.size w wr
  blk : ∃ cs n, wr.heap[w.heap.size]? = some (.cells cs 5 (n, n + 1)) ∧ s.size ≤ n ∧ ∀ j (h : j < s.size), cs[j]? = some (.int .u8 (if j < k then lowI s[j].toNat else s[j].toNat))

theorem LowAt.start {w : World} {s : ByteArray} {cap : Nat} (h : s.size ≤ cap) : LowAt w (w.alloc (.cells (bytesRow s cap) 5 ((bytesRow s cap).size, (bytesRow s cap).size + 1))).drew s cap 0 := by
  have hsz : (bytesRow s cap).size = cap := by unfold bytesRow; simp; omega
  refine ⟨bl_drew (bl_alloc (Below.refl _ _) _), bytesRow s cap, _, heap_alloc_new w _, by rw [hsz]; exact h, fun j hj => ?_⟩
  rw [if_neg (by omega)]
  unfold bytesRow
  rw [Array.getElem?_append, if_pos (by simpa using hj)]
  rw [Array.getElem?_map, Array.getElem?_eq_getElem (by simpa using hj)]
  rfl

theorem frozen_of_row {w : World} {g j n : Nat} {cs : Array Value} {t : TypeId} (h : w.heap[g]? = some (.cells cs t (n, n + 1))) (hj : j < n) : w.frozen? ⟨g, j, none⟩ = false := by
  simp [World.frozen?, h]; omega

theorem LowAt.at_ {w wr : World} {s : ByteArray} {cap k j : Nat} (h : LowAt w wr s cap k) (hj : j < s.size) : wr.cell? ⟨w.heap.size, j, none⟩ = some (.int .u8 (if j < k then lowI s[j].toNat else s[j].toNat)) ∧ wr.frozen? ⟨w.heap.size, j, none⟩ = false := by
  obtain ⟨cs, n, h1, h2, h3⟩ := h.blk
  exact ⟨(cell_of_row wr _ j cs _ _ h1).trans (h3 j hj), frozen_of_row h1 (by omega)⟩

theorem LowAt.skip {w wr : World} {s : ByteArray} {cap k : Nat} (h : LowAt w wr s cap k) (hk : k < s.size) (hx : lowI (s[k].toNat : Int) = (s[k].toNat : Int)) : LowAt w wr s cap (k + 1) := by
  obtain ⟨cs, n, h1, h2, h3⟩ := h.blk
  refine ⟨h.bel, cs, n, h1, h2, fun j hj => ?_⟩
  rw [h3 j hj]
  by_cases c1 : j < k
  · rw [if_pos c1, if_pos (by omega)]
  · by_cases c2 : j = k
    · subst c2; rw [if_neg c1, if_pos (by omega), hx]
    · rw [if_neg c1, if_neg (by omega)]

theorem LowAt.store {w wr : World} {s : ByteArray} {cap k : Nat} {x : Int} (h : LowAt w wr s cap k) (hk : k < s.size) (hx : lowI (s[k].toNat : Int) = x) : LowAt w (wr.setCell ⟨w.heap.size, k, none⟩ (.int .u8 x)) s cap (k + 1) := by
  obtain ⟨cs, n, h1, h2, h3⟩ := h.blk
  refine ⟨h.bel.setCell (Nat.le_refl _) _, cs.setIfInBounds k (.int .u8 x), n, ?_, h2, fun j hj => ?_⟩
  · simp [World.setCell, Array.getElem?_modify, h1]
  · rw [Array.getElem?_setIfInBounds]
    by_cases c2 : k = j
    · subst c2
      have := (Array.getElem?_eq_some_iff.1 (h3 k hk)).1
      rw [if_pos rfl, if_pos this, if_pos (by omega), hx]
    · rw [if_neg c2, h3 j hj]
      by_cases c1 : j < k
      · rw [if_pos c1, if_pos (by omega)]
      · rw [if_neg c1, if_neg (by omega)]

theorem LowAt.back {w wr : World} {s : ByteArray} {cap : Nat} (h : LowAt w wr s cap s.size) : (convert 104 9 (.slice (some ⟨w.heap.size, 0, none⟩) s.size cap)).run Tryz.prog wr = .ok (.string (lowS s)) wr := by
  refine run_convert_bytes_arg wr 104 5 Tryz.underlying104 Tryz.underlying5 w.heap.size 0 s.size cap _ (by simp) (fun i hi => ?_) 9 Tryz.underlying9
  rw [Nat.zero_add, (h.at_ hi).1, if_pos hi]
  have hl : i < (s.data.toList.map fun c => lowI c.toNat).length := by simpa using hi
  rw [List.getD_eq_getElem?_getD, List.getElem?_eq_getElem hl]
  simp
  rfl

set_option maxHeartbeats 3200000 in
set_option maxRecDepth 100000 in
theorem bytesSmall_any (s : ByteArray) (w : World) (hs : s.size ≤ 1000000000) :
    Calls Tryz.prog 195 #[.string s] w fun e w' => e = .returned (.string (lowS s)) ∧ Below w.heap.size w w' := by
  have hcv := run_bytes_of_string (P := Tryz.prog) w 9 104 5 s Tryz.underlying9 Tryz.underlying104 Tryz.underlying5
  have hge := grownCap_ge w s.size 0 5
  generalize grownCap w s.size 0 5 = cap at hcv hge
  go_enter Tryz.func195, Tryz.ntmps195
  go_wp2
  clear hcv
  have hL0 : LowAt w (w.alloc (.cells (bytesRow s cap) 5 ((bytesRow s cap).size, (bytesRow s cap).size + 1))).drew s cap 0 := LowAt.start hge
  have HL0 := hide hL0
  generalize (w.alloc (.cells (bytesRow s cap) 5 ((bytesRow s cap).size, (bytesRow s cap).size + 1))).drew = W0 at HL0 ⊢
  clear hL0
  generalize hg : w.heap.size = g
  have HG := hide hg
  clear hg
  go_loopw [10] (fun i wr => ∃ k : Nat, k ≤ s.size ∧ i = .int .i64 k ∧ Hid (LowAt w wr s cap k)) (fun i _ => s.size - (intOf i).toNat)
  case atStart => exact ⟨0, Nat.zero_le _, rfl, HL0⟩
  case round =>
    clear HL0
    obtain ⟨k, hk, rfl, HL⟩ := hrel
    by_cases hlt : k < s.size
    · have cd := (HL.out.at_ hlt).1
      have fz := (HL.out.at_ hlt).2
      rw [HG.out] at cd fz
      rw [if_neg (Nat.lt_irrefl k)] at cd
      have hbd : (s[k].toNat : Int) ≤ 255 ∧ 0 ≤ (s[k].toNat : Int) := by have := s[k].toNat_lt; omega
      obtain ⟨hb1, hb2⟩ := hbd
      have hlo : lowI (s[k].toNat : Int) = if 65 ≤ (s[k].toNat : Int) ∧ (s[k].toNat : Int) ≤ 90 then (s[k].toNat : Int) + 32 else (s[k].toNat : Int) := rfl
      have HLO := hide hlo
      clear hlo
      have hnx := fun h => HL.out.skip hlt h
      have hst := fun x h => HL.out.store hlt (x := x) h
      rw [HG.out] at hst
      have HNX := hide hnx
      have HST := hide hst
      clear hnx hst
      generalize (s[k].toNat : Int) = c at *
      have i1 : (k : Int) < (s.size : Int) := by omega
      by_cases h1 : 65 ≤ c
      · by_cases h2 : c ≤ 90
        · have w1 : IntKind.u8.wrap (c + 97) = c + 97 := by rw [IntKind.wrap_u8]; omega
          have w2 : IntKind.u8.wrap (c + 97 - 65) = c + 32 := by rw [IntKind.wrap_u8]; omega
          have w3 : IntKind.u8.wrap (c + 32) = c + 32 := by rw [IntKind.wrap_u8]; omega
          go_wp2
          go_roundw
          case rel => exact ⟨k + 1, by omega, by go_num, hide (HST.out _ (by rw [HLO.out, if_pos ⟨h1, h2⟩]))⟩
          case measure => simp [intOf]; omega
        · go_wp2
          go_roundw
          case rel => exact ⟨k + 1, by omega, by go_num, hide (HNX.out (by rw [HLO.out, if_neg (fun h => h2 h.2)]))⟩
          case measure => simp [intOf]; omega
      · go_wp2
        go_roundw
        case rel => exact ⟨k + 1, by omega, by go_num, hide (HNX.out (by rw [HLO.out, if_neg (fun h => h1 h.1)]))⟩
        case measure => simp [intOf]; omega
    · have hks : k = s.size := by omega
      subst hks
      have hcv2 := HL.out.back
      rw [HG.out] at hcv2
      have hbel := HL.out.bel
      have i1 : ¬ (s.size : Int) < (s.size : Int) := by omega
      clear HL
      go_wp2
      go_ret
      exact ⟨rfl, hbel⟩

end Go.Proofs.YtioppoaijehicaaGreatDoor
/-
  PLAIN: titles folded: in small letters, parted at blanks, the empty parts struck.
-/
namespace Go.Proofs.YtioppoaijehicaaGreatDoor
open Go.RowKit Go.Lib

def lwB (c : UInt8) : UInt8 := UInt8.ofNat (lowI c.toNat).toNat

theorem lowS_lw (s : ByteArray) : (lowS s).data.toList = s.data.toList.map lwB := by
  unfold lowS
  rw [strOfNums_data, List.map_map]
  rfl

theorem lwB_nat (c : UInt8) : ((lwB c).toNat : Int) = lowI c.toNat := by
  have h := c.toNat_lt
  unfold lwB lowI
  split <;> (simp only [UInt8.toNat_ofNat']; omega)

theorem lwB_blank (c : UInt8) : lwB c = 32 ↔ c = 32 := by
  constructor
  · intro h
    have h1 := lwB_nat c
    rw [h] at h1
    have h2 : ((32 : UInt8).toNat : Int) = 32 := rfl
    rw [h2] at h1
    unfold lowI at h1
    split at h1
    · omega
    · exact UInt8.toNat_inj.1 (show c.toNat = 32 by omega)
  · rintro rfl
    rfl

theorem lowS_sz (s : ByteArray) : (lowS s).size = s.size := by
  unfold lowS strOfNums
  show (List.toArray _).size = s.data.size
  rw [List.size_toArray, List.length_map, List.length_map, Array.length_toList]

/-- A row of bytes, parted at a byte. -/
def partF (c : UInt8) : List UInt8 → List (List UInt8)
  | [] => [[]]
  | b :: l => if b = c then [] :: partF c l else match partF c l with
    | h :: t => (b :: h) :: t
    | [] => [[b]]

theorem partF_ne (c : UInt8) : ∀ l : List UInt8, partF c l ≠ []
  | [] => by simp [partF]
  | b :: l => by
    unfold partF
    split
    · simp
    · split <;> simp

theorem split_partF (c : UInt8) : ∀ l : List UInt8, split l [c] = partF c l
  | [] => by
    unfold split
    rw [count_one]
    rfl
  | b :: l => by
    by_cases h : b = c
    · subst h
      rw [partF, if_pos rfl, ← split_partF b l]
      unfold split
      have hix : index (b :: l) [b] = ((0 : Nat) : Int) := by rw [index]; simp [List.isPrefixOf]
      rw [count_cons_eq, Nat.add_comm 1, splitK, hix]
      simp
    · rw [partF, if_neg h, ← split_partF c l]
      unfold split
      rw [count_cons_ne b c l h]
      have hp : ([c] : List UInt8).isPrefixOf (b :: l) = false := by simp [List.isPrefixOf, Ne.symm h]
      have hix : index (b :: l) [c] = if index l [c] == -1 then -1 else index l [c] + 1 := by rw [index, hp]; simp
      by_cases hm : index l [c] = -1
      · rw [count_miss hm]
        rfl
      · have hge := index_ge l [c]
        obtain ⟨j, hj⟩ : ∃ j : Nat, index l [c] = j := ⟨(index l [c]).toNat, by omega⟩
        have hix' : index (b :: l) [c] = ((j + 1 : Nat) : Int) := by rw [hix, if_neg (fun e => hm (beq_iff_eq.1 e)), hj]; omega
        rw [count_hit (by simp) hj, Nat.add_comm 1, splitK, splitK, hj, hix']
        have n1 : ¬ (((j + 1 : Nat) : Int) == -1) = true := fun e => by have := beq_iff_eq.1 e; omega
        have n2 : ¬ (((j : Nat) : Int) == -1) = true := fun e => by have := beq_iff_eq.1 e; omega
        rw [if_neg n1, if_neg n2]
        simp

theorem partF_low : ∀ l : List UInt8, partF 32 (l.map lwB) = (partF 32 l).map (·.map lwB)
  | [] => rfl
  | b :: l => by
    have ih := partF_low l
    rw [List.map_cons, partF, partF]
    by_cases h : b = 32
    · rw [if_pos h, if_pos ((lwB_blank b).2 h), ih]
      rfl
    · rw [if_neg h, if_neg (fun e => h ((lwB_blank b).1 e)), ih]
      cases hp : partF 32 l with
      | nil => exact absurd hp (partF_ne _ _)
      | cons p t => rfl

/-- What the parts weigh: their bytes and one each. -/
def wtF (xs : List (List UInt8)) : Nat := (xs.map (fun x => x.length + 1)).sum

theorem wtF_cons (x : List UInt8) (xs : List (List UInt8)) : wtF (x :: xs) = x.length + 1 + wtF xs := by simp [wtF]

theorem wtF_part (c : UInt8) : ∀ l : List UInt8, wtF (partF c l) = l.length + 1
  | [] => rfl
  | b :: l => by
    have ih := wtF_part c l
    unfold partF
    split
    · rw [wtF_cons, ih, List.length_cons, List.length_nil]; omega
    · cases hp : partF c l with
      | nil => exact absurd hp (partF_ne _ _)
      | cons p t =>
        rw [hp, wtF_cons] at ih
        rw [wtF_cons, List.length_cons, List.length_cons]
        omega

theorem wtF_filter (p : List UInt8 → Bool) : ∀ xs : List (List UInt8), wtF (xs.filter p) ≤ wtF xs
  | [] => Nat.le_refl _
  | x :: xs => by
    have ih := wtF_filter p xs
    rw [List.filter_cons]
    split
    · rw [wtF_cons, wtF_cons]; omega
    · rw [wtF_cons]; omega

theorem wtF_len : ∀ xs : List (List UInt8), xs.length ≤ wtF xs
  | [] => Nat.le_refl _
  | x :: xs => by
    have ih := wtF_len xs
    rw [wtF_cons, List.length_cons]; omega

theorem joinTail_len (c : UInt8) : ∀ xs : List (List UInt8), (joinTail [c] xs).length = wtF xs
  | [] => rfl
  | x :: xs => by
    have ih := joinTail_len c xs
    unfold joinTail at ih ⊢
    rw [List.map_cons, List.flatten_cons, List.length_append, ih, wtF_cons, List.length_append]
    simp; omega

theorem join_len (c : UInt8) (xs : List (List UInt8)) : (join xs [c]).length ≤ wtF xs := by
  cases xs with
  | nil => exact Nat.zero_le _
  | cons x r =>
    rw [join_cons, List.length_append, joinTail_len, wtF_cons]
    omega

theorem join_low (xs : List (List UInt8)) : join (xs.map (·.map lwB)) [32] = (join xs [32]).map lwB := by
  cases xs with
  | nil => rfl
  | cons x r =>
    rw [List.map_cons, join_cons, join_cons, List.map_append]
    congr 1
    induction r with
    | nil => rfl
    | cons y r ih =>
      unfold joinTail at ih ⊢
      simp only [List.map_cons, List.flatten_cons, List.map_append] at ih ⊢
      rw [ih]
      rfl

/-- The parts that are not empty. -/
def keepL (xs : List (List UInt8)) : List (List UInt8) := xs.filter (fun x => !x.isEmpty)

/-- A title, folded. -/
def foldL (l : List UInt8) : List UInt8 := join (keepL (partF 32 (l.map lwB))) [32]

theorem foldL_ref (l : List UInt8) : (join (keepL (partF 32 l)) [32]).map lwB = foldL l := by
  unfold foldL
  rw [partF_low, ← join_low]
  congr 1
  unfold keepL
  rw [List.filter_map]
  congr 1
  apply List.filter_congr
  intro x _
  cases x <;> rfl

theorem keepL_len (l : List UInt8) : (join (keepL (partF 32 l)) [32]).length ≤ l.length + 1 := by
  refine Nat.le_trans (join_len _ _) ?_
  rw [← wtF_part 32 l]
  exact wtF_filter _ _

theorem foldL_len (l : List UInt8) : (foldL l).length ≤ l.length + 1 := by
  have := keepL_len (l.map lwB)
  rwa [List.length_map] at this

def foldT (s : ByteArray) : ByteArray := ⟨(foldL s.data.toList).toArray⟩

/-- Is a string not empty? -/
def fullS (s : ByteArray) : Bool := !s.data.toList.isEmpty

theorem fullS_map (xs : List ByteArray) : (xs.filter fullS).map (·.data.toList) = keepL (xs.map (·.data.toList)) := by
  unfold keepL
  rw [List.filter_map]
  rfl

/-- The parts of a string, as strings. -/
def partsS (s : ByteArray) : List ByteArray := splitB ⟨#[32]⟩ 0 (countB s ⟨#[32]⟩) s

theorem partsS_map (s : ByteArray) : (partsS s).map (·.data.toList) = partF 32 s.data.toList := by
  unfold partsS
  rw [splitB_data, ← split_partF]
  rfl

theorem partsS_len (s : ByteArray) : (partsS s).length = countB s ⟨#[32]⟩ + 1 := splitB_all _ (by decide) _ _ _ rfl

theorem partsS_le (s : ByteArray) : (partsS s).length ≤ s.size + 1 := by
  rw [partsS_len]
  have := countB_le ⟨#[32]⟩ (by decide) s.size s (Nat.le_refl _)
  omega

end Go.Proofs.YtioppoaijehicaaGreatDoor
