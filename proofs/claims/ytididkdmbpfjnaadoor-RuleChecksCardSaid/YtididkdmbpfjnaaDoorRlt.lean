/-
  PLAIN AND WALKS: a rule as text: its pieces, and the closures that write them.
-/
import Derived.Test.YtididkdmbpfjnaaDoorRlb
import Derived.Lib.ItoaLen
import Derived.Shelf.Abstract
namespace Go.Proofs.YtididkdmbpfjnaaDoor
open Go.RowKit Cal

def itB (n : Int) : ByteArray := ⟨(Lib.itoa n).toArray⟩
def unitB (u : Int) : ByteArray := if u = 1 then ⟨#[100, 97, 121]⟩ else if u = 2 then ⟨#[119, 101, 101, 107]⟩ else if u = 3 then ⟨#[109, 111, 110, 116, 104]⟩ else ⟨#[121, 101, 97, 114]⟩
def wdayB (n : Int) : ByteArray := if n = 0 then ⟨#[109, 111, 110]⟩ else if n = 1 then ⟨#[116, 117, 101]⟩ else if n = 2 then ⟨#[119, 101, 100]⟩ else if n = 3 then ⟨#[116, 104, 117]⟩ else if n = 4 then ⟨#[102, 114, 105]⟩ else if n = 5 then ⟨#[115, 97, 116]⟩ else ⟨#[115, 117, 110]⟩
def dayB (d : Int) : ByteArray := dateS (parts d)
/-- The text of a list: each word behind a blank. -/
def wordsB (txt : Int → ByteArray) (S : ByteArray) (l : List Int) : ByteArray := l.foldl (fun acc n => acc ++ ((⟨#[32]⟩ : ByteArray) ++ txt n)) S
theorem wordsB_succ {txt : Int → ByteArray} {S : ByteArray} {l : List Int} {k : Nat} (h : k < l.length) : wordsB txt S (l.take (k + 1)) = wordsB txt S (l.take k) ++ ((⟨#[32]⟩ : ByteArray) ++ txt l[k]) := by
  unfold wordsB
  rw [List.take_succ_eq_append_getElem h, List.foldl_append]
  rfl
theorem wordsB_size {txt : Int → ByteArray} (m : Nat) : ∀ (l : List Int) (S : ByteArray), (∀ n ∈ l, (txt n).size ≤ m) → (wordsB txt S l).size ≤ S.size + l.length * (m + 1)
  | [], S, _ => by simp [wordsB]
  | n :: r, S, h => by
    have ih := wordsB_size m r (S ++ ((⟨#[32]⟩ : ByteArray) ++ txt n)) (fun x hx => h x (List.mem_cons_of_mem _ hx))
    have h0 := h n (List.mem_cons_self ..)
    rw [ByteArray.size_append, ByteArray.size_append] at ih
    have h1 : (⟨#[32]⟩ : ByteArray).size = 1 := rfl
    have e : wordsB txt S (n :: r) = wordsB txt (S ++ ((⟨#[32]⟩ : ByteArray) ++ txt n)) r := rfl
    rw [e, List.length_cons, Nat.add_mul]
    omega
theorem itB_size {n : Int} (h0 : -9223372036854775808 ≤ n) (h1 : n ≤ 9223372036854775807) : (itB n).size ≤ 21 := by
  have := Lib.itoa_length_le n h0 h1
  show (Lib.itoa n).toArray.size ≤ 21
  simpa using this
theorem dayB_size (d : Int) : (dayB d).size = 10 := rfl
theorem unitB_size (u : Int) : (unitB u).size ≤ 5 := by unfold unitB; (repeat' split) <;> decide
theorem wdayB_size (u : Int) : (wdayB u).size ≤ 5 := by unfold wdayB; (repeat' split) <;> decide

/-- Numbers that rise are no more than there are. -/
theorem rise_ge {l : List Int} {lo hi : Int} {zero : Bool} (h : rise l lo hi zero = 0) : ∀ j, j < l.length → lo + j ≤ l.getD j 0 := by
  have h0 : ∀ j, j < l.length → riseAt l lo hi zero j = 0 := by
    intro j hj
    unfold rise at h
    cases hf : (List.range l.length).find? (fun k => riseAt l lo hi zero k != 0) with
    | none =>
      have := List.find?_eq_none.1 hf j (List.mem_range.2 hj)
      simpa using this
    | some k =>
      rw [hf] at h
      have := List.find?_some hf
      simp only at h
      rw [h] at this
      simp at this
  intro j
  induction j with
  | zero => intro hj; have := (rise_bd h 0 hj).1; omega
  | succ j ih =>
    intro hj
    have h1 := ih (by omega)
    have h2 := h0 (j + 1) hj
    unfold riseAt at h2
    split at h2
    · omega
    · split at h2
      · omega
      · rename_i h3
        rw [Nat.add_sub_cancel] at h3
        omega
theorem rise_len {l : List Int} {lo hi : Int} {zero : Bool} (h : rise l lo hi zero = 0) (N : Nat) (hN : hi - lo < N) : l.length ≤ N := by
  rcases Nat.lt_or_ge N l.length with hlt | hge
  · have h1 := rise_ge h N hlt
    have h2 := (rise_bd h N hlt).2
    omega
  · exact hge

theorem below_le {g : Nat} {w w' : World} (h : Below w.heap.size w w') (hg : g ≤ w.heap.size) : Below g w w' := h.mono hg

/-! ### The closures -/

def unitsArr : Array Value := #[.string ⟨#[100, 97, 121]⟩, .string ⟨#[119, 101, 101, 107]⟩, .string ⟨#[109, 111, 110, 116, 104]⟩, .string ⟨#[121, 101, 97, 114]⟩]
set_option maxHeartbeats 800000 in
theorem unitWords_any (w : World) :
    Calls Tryd.prog 28 #[] w fun e w' => e = .returned (.slice (some ⟨w.heap.size, 0, none⟩) 4 4) ∧ w' = w.alloc (.cells unitsArr 9) := by
  unfold unitsArr
  go_enter Tryd.func28, Tryd.ntmps28
  go_wp2
  go_ret
  exact ⟨rfl, rfl⟩
set_option maxHeartbeats 800000 in
theorem weekdayWords_any (w : World) :
    Calls Tryd.prog 31 #[] w fun e w' => e = .returned (.slice (some ⟨w.heap.size, 0, none⟩) 7 7) ∧ w' = w.alloc (.cells #[.string ⟨#[109, 111, 110]⟩, .string ⟨#[116, 117, 101]⟩, .string ⟨#[119, 101, 100]⟩, .string ⟨#[116, 104, 117]⟩, .string ⟨#[102, 114, 105]⟩, .string ⟨#[115, 97, 116]⟩, .string ⟨#[115, 117, 110]⟩] 9) := by
  go_enter Tryd.func31, Tryd.ntmps31
  go_wp2
  go_ret
  exact ⟨rfl, rfl⟩
set_option maxHeartbeats 1600000 in
theorem wdayText_any (n : Int) (w : World) (h0 : 0 ≤ n) (h1 : n ≤ 6) :
    Calls Tryd.prog 30 #[.int .i64 n] w fun e w' => e = .returned (.string (wdayB n)) ∧ Below w.heap.size w w' := by
  have hn : n = 0 ∨ n = 1 ∨ n = 2 ∨ n = 3 ∨ n = 4 ∨ n = 5 ∨ n = 6 := by omega
  clear h0 h1
  rcases hn with rfl | rfl | rfl | rfl | rfl | rfl | rfl
  all_goals
    go_enter Tryd.func30, Tryd.ntmps30
    go_wp2_with (go_at_call 31; refine (weekdayWords_any _).mono ?_; rintro e w' ⟨rfl, rfl⟩)
    go_ret
    exact ⟨rfl, (by repeat (first | exact Below.refl _ _ | refine bl_plus ?_ | refine bl_alloc ?_ _ | refine bl_drew ?_))⟩
set_option maxHeartbeats 800000 in
theorem dayText_any (d : Int) (w : World) (h0 : 0 ≤ d) (h1 : d ≤ 100000) (ht : PowTab w) :
    Calls Tryd.prog 24 #[.int .i64 d] w fun e w' => e = .returned (.string (dayB d)) ∧ Below w.heap.size w w' := by
  have HD := hide (dateText_any d w h0 h1 ht)
  clear h0 h1 ht
  unfold dayB
  generalize dateS (parts d) = S at *
  go_enter Tryd.func24, Tryd.ntmps24
  go_wp2_with (go_at_call 25; refine HD.out.mono ?_; rintro e w' ⟨rfl, hbl⟩; obtain ⟨os1, n1, rfl⟩ := below_plus hbl; clear hbl)
  go_ret
  exact ⟨rfl, (by repeat (first | exact Below.refl _ _ | refine bl_plus ?_ | refine bl_alloc ?_ _ | refine bl_drew ?_))⟩

/-- How a text begins that may be empty. -/
def headB (S word : ByteArray) (l : List Int) : ByteArray := if 0 < l.length then S ++ ((⟨#[32]⟩ : ByteArray) ++ word) else S
theorem headB_some {S word : ByteArray} {l : List Int} (h : 0 < l.length) : headB S word l = S ++ ((⟨#[32]⟩ : ByteArray) ++ word) := if_pos h
theorem headB_none {S word : ByteArray} {l : List Int} (h : l.length = 0) : headB S word l = S := if_neg (by omega)
theorem headB_size (S word : ByteArray) (l : List Int) : (headB S word l).size ≤ S.size + 1 + word.size := by
  have h1 : (⟨#[32]⟩ : ByteArray).size = 1 := rfl
  unfold headB
  split
  · rw [ByteArray.size_append, ByteArray.size_append, h1]; omega
  · omega
theorem toList_append (a b : ByteArray) : (a ++ b).data.toList = a.data.toList ++ b.data.toList := by simp [ByteArray.data_append]

theorem bldAt_plus {T e : TypeId} {B b : Nat} {p : Value} {bs : List Value} {w : World} {os : Array Obj} {n : Nat} (h : Lib.BuilderAt T e B b p bs w) : Lib.BuilderAt T e B b p bs (plus w os n) := by
  have hlt := h.lt
  obtain ⟨h1, v, h2, h3, h4⟩ := h
  exact ⟨h1, v, (plus_heap hlt).trans h2, own_plus h3, h4⟩
theorem Bld.plus {w : World} {g : Nat} {l : List UInt8} {os : Array Obj} {n : Nat} (h : Bld w g l) : Bld (plus w os n) g l := by
  rcases h with h | h
  · exact .inl (bldAt_plus h)
  · exact .inr (bldAt_plus h)
theorem below_plus_g {g : Nat} {a w : World} {os : Array Obj} {n : Nat} (h : Below g a w) (hg : g ≤ w.heap.size) : Below g a (plus w os n) := plus_below h hg
theorem str_len (S : ByteArray) : S.data.toList.length = S.size := by rw [Array.length_toList]; rfl

theorem intsAt_lt {w : World} {A : Option Addr} {l : List Int} (h : IntsAt w A l) {g : Nat} (hg : w.heap.size ≤ g) : 0 < l.length → ∀ a, A = some a → a.block < g := by
  intro hl a ha
  obtain ⟨b, off, rfl, hb, _⟩ := h hl
  injection ha with ha
  subst ha
  exact Nat.lt_of_lt_of_le hb hg

/-- What a function of numbers writes. -/
def Writes (fid : FuncId) (txt : Int → ByteArray) (l : List Int) (g : Nat) (w : World) : Prop :=
  (∀ args w, (callFunc fid args).run Tryd.prog w = .ok (.enter fid args) w) ∧
  ∀ n ∈ l, (txt n).size ≤ 30 ∧ ∀ w', Below g w w' → g ≤ w'.heap.size → Calls Tryd.prog fid #[.int .i64 n] w' fun e w'' => e = .returned (.string (txt n)) ∧ Below w'.heap.size w' w''

set_option maxHeartbeats 3200000 in
set_option maxRecDepth 100000 in
theorem part_any (fid : FuncId) (txt : Int → ByteArray) (g : Nat) (word S : ByteArray) (A : Option Addr) (c : Nat) (l : List Int) (w : World)
    (hB : Bld w g S.data.toList) (hI : IntsAt w A l) (hA : 0 < l.length → ∀ a, A = some a → a.block < g) (hl : l.length ≤ 1000) (hS : S.size ≤ 10000) (hw : word.size ≤ 1000) (hg : g ≤ w.heap.size) (ht : Writes fid txt l g w) :
    Calls Tryd.prog 29 #[.string word, .slice A l.length c, .func (.func fid) #[] #[], .pointer (some ⟨g, 0, none⟩)] w fun e w' =>
      e = .returned (.tuple #[]) ∧ Bld w' g (wordsB txt (headB S word l) l).data.toList ∧ Below g w w' ∧ (wordsB txt (headB S word l) l).size ≤ S.size + 1 + word.size + l.length * 31 := by
  obtain ⟨ent, hT⟩ := ht
  have hsz : (wordsB txt (headB S word l) l).size ≤ S.size + 1 + word.size + l.length * 31 := by
    have := wordsB_size (txt := txt) 30 l (headB S word l) (fun n hn => (hT n hn).1)
    have := headB_size S word l
    omega
  have hszk : ∀ k, (wordsB txt (headB S word l) (l.take k)).size ≤ 50000 := fun k => by
    have := wordsB_size (txt := txt) 30 (l.take k) (headB S word l) (fun n hn => (hT n (List.mem_of_mem_take hn)).1)
    have := headB_size S word l
    have : (l.take k).length ≤ l.length := by rw [List.length_take]; omega
    omega
  have HSZ := hide hsz
  have HSK := hide hszk
  have HT := hide hT
  have HI := hide hI
  have HA := hide hA
  have HB := hide hB
  have hone : ((⟨#[32]⟩ : ByteArray) ++ word).size ≤ 1001 := by
    have h1 : (⟨#[32]⟩ : ByteArray).size = 1 := rfl
    rw [ByteArray.size_append, h1]; omega
  have HH0 := hide (fun h => headB_none (S := S) (word := word) (l := l) h)
  have HH1 := hide (fun h => headB_some (S := S) (word := word) (l := l) h)
  have HST := hide (fun k (h : k < l.length) => wordsB_succ (txt := txt) (S := headB S word l) (l := l) h)
  have HW := hide (fun w' s (h : Bld w' g S.data.toList) hs hg => Tryd.bldWrite g S.data.toList s w' h hs hg)
  have HW2 := hide (fun w' T s (h : Bld w' g (List.map id T)) hs hg => Tryd.bldWrite g (List.map id T) s w' h hs hg)
  have h30 : ((⟨#[32]⟩ : ByteArray).size : Int) = 1 := rfl
  have hwi : (word.size : Int) ≤ 1000 := by omega
  have HLL := hide (show (⟨#[]⟩ : ByteArray).size = 0 from rfl)
  clear hsz hszk hT hI hA hB hw
  go_enter Tryd.func29, Tryd.ntmps29
  go_upto_if 11 with fail
  generalize hd : decide (0 < l.length) = bd
  have HD := hide hd
  clear hd
  go_cut [] from 12 to 14 (fun wx => Hid (Bld wx g (headB S word l).data.toList) ∧ Hid (Below g w wx))
  case first =>
    by_cases h0 : l.length = 0
    · have hh := HH0.out h0
      have HH := hide hh
      obtain rfl : bd = false := by rw [← HD.out]; simp [h0]
      clear hh HD
      go_wp2
      go_meet
      exact ⟨hide (by rw [HH.out]; exact HB.out), hide (Below.refl _ _)⟩
    · have hh := HH1.out (by omega)
      have HH := hide hh
      obtain rfl : bd = true := by rw [← HD.out]; simp; omega
      clear hh HD
      have i1 : (0 : Int) < (l.length : Int) := by omega
      go_wp2_with (go_at_call 26; refine (Tryd.bldWrite g S.data.toList _ w HB.out (by rw [Array.length_toList]; have : S.data.size = S.size := rfl; omega) hg).mono ?_; rintro e w' ⟨rfl, hb, hbl⟩; have HB2 := hide hb; have HBL := hide hbl; clear hb hbl)
      go_meet
      exact ⟨hide (by rw [HH.out, toList_append]; exact HB2.out), HBL⟩
  case rest =>
    obtain ⟨HB2, HBL⟩ := hcut
    clear HB
    go_wp2
    go_loopw [17] (fun i wr => ∃ (k : Nat), k ≤ l.length ∧ i = .int .i64 k ∧ Hid (Bld wr g (wordsB txt (headB S word l) (l.take k)).data.toList) ∧ Hid (Below g w wr)) (fun i _ => l.length - (intOf i).toNat)
    case atStart => exact ⟨0, Nat.zero_le _, rfl, hide (by rw [List.take_zero]; exact HB2.out), HBL⟩
    case round =>
      clear HB2 HBL
      obtain ⟨k, hk, rfl, HB2, HBL⟩ := hrel
      by_cases hlt : k < l.length
      · obtain ⟨b, off, rfl, hb, hcell⟩ := HI.out (by omega)
        have hbg := HA.out (by omega) _ rfl
        have c1 := (HBL.out.cell (p := ⟨b, off + k, none⟩) hbg).trans (hcell k hlt)
        have hT := HT.out l[k] (List.getElem_mem hlt)
        have HS := hide (HST.out k hlt)
        have hsk := HSK.out k
        obtain ⟨ht30, hT⟩ := hT
        have HTX := hide hT
        clear hT hcell
        generalize wordsB txt (headB S word l) (l.take k) = T at *
        generalize l[k] = x at *
        generalize txt x = X at *
        have hX : (X.size : Int) ≤ 30 := by omega
        have hgr : g ≤ wr.heap.size := Nat.le_trans hg HBL.out.size
        go_wp2_with (first
          | (go_at_call 26; refine (Tryd.bldWrite g T.data.toList _ _ (HB2.out.plus) (by rw [str_len, ByteArray.size_append]; omega) (by rw [plus_size]; omega)).mono ?_; rintro e w' ⟨rfl, hb, hbl⟩; have HB3 := hide hb; have HBL3 := hide (HBL.out.trans ((plus_below (Below.refl _ _) hgr).trans hbl)); clear hb hbl)
          | (refine (HTX.out _ HBL.out hgr).mono ?_; rintro e w' ⟨rfl, hbl⟩; obtain ⟨os1, n1, rfl⟩ := below_plus hbl; clear hbl))
        go_roundw
        case rel => exact ⟨k + 1, hlt, by go_num, hide (by rw [HS.out, toList_append]; exact HB3.out), HBL3⟩
        case measure => simp [intOf]; omega
      · have hkl : k = l.length := by omega
        have hb2 := HB2.out
        rw [hkl, List.take_length] at hb2
        subst hkl
        have HB3 := hide hb2
        clear hb2 HB2
        go_wp2
        go_returns
        exact ⟨rfl, HB3.out, HBL.out, HSZ.out⟩

end Go.Proofs.YtididkdmbpfjnaaDoor
