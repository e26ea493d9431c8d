/-
  PLAIN: how a query's parts, clauses and the query are read. WORDS FOR MEMORY: the strings of a part, a part in a box.
-/
import Derived.Test.YtfklaahakibljaaQryW
namespace Go.Proofs.Ytfklaahakibljaa
open Go.RowKit Go.Shelf

theorem indexByte_lt (l : List UInt8) (c : UInt8) : Lib.indexByte l c < l.length ∨ Lib.indexByte l c < 0 := by
  induction l with
  | nil => right; show (-1 : Int) < 0; decide
  | cons b l ih =>
    unfold Lib.indexByte
    split
    · left; simp
    · split
      · right; decide
      · rename_i h
        have := Lib.indexByte_ge l c
        have h2 : Lib.indexByte l c ≠ -1 := by simpa using h
        left
        rcases ih with ih | ih
        · simp; omega
        · omega
theorem ixB_lt (s : ByteArray) (c : Int) : ixB s c < s.size ∨ ixB s c = -1 := by
  have h := indexByte_lt s.data.toList c.toNat.toUInt8
  have h2 := ixB_ge s c
  have e : s.data.toList.length = s.size := by rw [Array.length_toList]; rfl
  rw [e] at h
  unfold ixB at *
  omega

/-! ### How a query is read -/

structure Pt where
  k : Int
  ws : List ByteArray
inductive PR where
  | bad (at_ : Int)
  | good (p : Pt) (next : Nat)
def wTexts (s : ByteArray) : List ByteArray := (wordsAt s 0).map Wd.t
/-- Behind a quotation mark. -/
def phraseR (s : ByteArray) (i : Nat) : PR :=
  if ixB (s.extract i s.size) 34 < 0 then .bad ((i : Int) - 1)
  else if wTexts (s.extract i (i + (ixB (s.extract i s.size) 34).toNat)) = [] then .bad ((i : Int) - 1)
  else .good ⟨3, wTexts (s.extract i (i + (ixB (s.extract i s.size) 34).toNat))⟩ (i + (ixB (s.extract i s.size) 34).toNat + 1)
/-- Where a word of at most 30 bytes ends. -/
def kEnd (s : ByteArray) (i : Nat) : Nat := min (wEnd s i) (i + 30)
/-- The part that begins with a word. -/
def wordR (s : ByteArray) (i : Nat) : PR :=
  if kEnd s i = i ∨ kEnd s i < wEnd s i then .bad (kEnd s i)
  else if h : kEnd s i < s.size then
    (if (s[kEnd s i].toNat : Int) = 42 then .good ⟨1, [lowS (s.extract i (kEnd s i))]⟩ (kEnd s i + 1)
     else if (s[kEnd s i].toNat : Int) = 126 then .good ⟨2, [lowS (s.extract i (kEnd s i))]⟩ (kEnd s i + 1)
     else .good ⟨0, [lowS (s.extract i (kEnd s i))]⟩ (kEnd s i))
  else .good ⟨0, [lowS (s.extract i (kEnd s i))]⟩ (kEnd s i)
def partR (s : ByteArray) (i : Nat) : PR :=
  if h : i < s.size then (if (s[i].toNat : Int) = 34 then phraseR s (i + 1) else wordR s i) else wordR s i

/-! ### The strings of a part -/

def StrsIn (w : World) (A : Option Addr) (ws : List ByteArray) : Prop :=
  0 < ws.length → ∃ b cur, A = some ⟨b, 0, none⟩ ∧ w.heap[b]? = some (.cells cur 9 (0, 0)) ∧ ∀ j (h : j < ws.length), cur[j]? = some (.string ws[j])
/-- Blocks of strings lie as they lay. -/
def KeepT (t : TypeId) (w w' : World) : Prop := ∀ (b : Nat) (cur : Array Value), w.heap[b]? = some (.cells cur t (0, 0)) → w'.heap[b]? = some (.cells cur t (0, 0))
theorem KeepT.refl (t : TypeId) (w : World) : KeepT t w w := fun _ _ h => h
theorem KeepT.trans {t : TypeId} {a b c : World} (h : KeepT t a b) (k : KeepT t b c) : KeepT t a c := fun q cur hq => k q cur (h q cur hq)
theorem KeepT.alloc {t : TypeId} {a w : World} (h : KeepT t a w) (o : Obj) : KeepT t a (w.alloc o) := fun b cur hb => Blk.alloc (h b cur hb) o
theorem KeepT.plus {t : TypeId} {a w : World} (h : KeepT t a w) (os : Array Obj) (n : Nat) : KeepT t a (Go.Proofs.Ytfklaahakibljaa.plus w os n) := fun b cur hb => Blk.plus (h b cur hb)
theorem KeepT.put {t t' : TypeId} {a w : World} {g : Nat} {cs cs' : Array Value} (h : KeepT t a w) (hB : Blk w g t' cs') (hne : t ≠ t') : KeepT t a (putBlk w g t' cs) := fun b cur hb => putBlk_far (h b cur hb) (Blk.ne_ (h b cur hb) hB hne)
theorem StrsIn.keep {w w' : World} {A : Option Addr} {ws : List ByteArray} (h : StrsIn w A ws) (hk : KeepT 9 w w') : StrsIn w' A ws := fun hl => by
  obtain ⟨b, cur, hA, hb, hc⟩ := h hl
  exact ⟨b, cur, hA, hk b cur hb, hc⟩
theorem strsIn_own {w : World} {base m n c : Nat} {A : Option Addr} {ws : List ByteArray} (h : w.ownsRow base 9 1 (.slice A m c) n (ws.map Value.string)) : m = n ∧ ws.length = n ∧ StrsIn w A ws := by
  obtain ⟨hl, h2⟩ := h
  rw [List.length_map, Nat.mul_one] at hl
  rcases h2 with ⟨hv, h0⟩ | ⟨g, cap, cur, hv, hg, hb, h3, h4, h5, h6⟩
  · injection hv with e1 e2 e3
    exact ⟨by omega, hl, fun hp => by omega⟩
  · injection hv with e1 e2 e3
    refine ⟨e2, hl, fun hp => ⟨g, cur, e1, hb, fun j hj => ?_⟩⟩
    have hq : (cur.toList.take (n * 1))[j]? = some (.string ws[j]) := by rw [h6, List.getElem?_map, List.getElem?_eq_getElem hj]; rfl
    rw [List.getElem?_take_of_lt (by omega)] at hq
    simpa using hq

/-! ### A part in a box -/

def PBox (W : World) (B : Nat) (v : Value) : Prop := W.heap[B]? = some (.cells #[.int .i64 3, v] 102 (0, 0))
section
variable {W W' w1 : World} {B : Nat} {v : Value}
theorem PBox.lt (h : PBox W B v) : B < W.heap.size := (Array.getElem?_eq_some_iff.1 h).1
theorem PBox.cell0 (h : PBox W B v) : W.cell? ⟨B, 0, none⟩ = some (.int .i64 3) := Blk.cell (cs := #[.int .i64 3, v]) h 0
theorem PBox.cell1 (h : PBox W B v) : W.cell? ⟨B, 1, none⟩ = some v := Blk.cell (cs := #[.int .i64 3, v]) h 1
theorem PBox.frozen (h : PBox W B v) (i : Nat) : W.frozen? ⟨B, i, none⟩ = false := Blk.frozen (cs := #[.int .i64 3, v]) h i
theorem PBox.kept {row : Option Nat} (h : PBox W B v) (hg : W.grownBy W' row) (hne : some B ≠ row) : PBox W' B v := (hg.block B h.lt hne).trans h
theorem PBox.alloc (h : PBox W B v) (o : Obj) : PBox (W.alloc o) B v := Blk.alloc (cs := #[.int .i64 3, v]) h o
theorem PBox.set (h : PBox W B v) (v' : Value) : PBox (W.setCell ⟨B, 1, none⟩ v') B v' := Blk.set_ (cs := #[.int .i64 3, v]) h 1 v'
theorem grownBy_setCell1 (W : World) (b i : Nat) (v : Value) : W.grownBy (W.setCell ⟨b, i, none⟩ v) (some b) :=
  ⟨rfl, rfl, rfl, (KeepsWalks.setCell W _ v).size, fun k _ hk => Below.heap_setCell _ _ _ k (fun e => hk (by rw [e]))⟩
theorem PBox.not_row {base size k : Nat} {u : Value} {xs : List Value} (h : PBox W B v) (hr : W.ownsRow base 9 size u k xs) : some B ≠ u.ownBlock := by
  rcases hr.2 with ⟨rfl, _⟩ | ⟨g, cap, cur, rfl, _, hgb, _⟩
  · simp [Value.ownBlock]
  · intro e'
    obtain rfl : B = g := by simpa [Value.ownBlock] using e'
    have := (show W.heap[B]? = _ from h).symm.trans hgb
    simp at this
theorem holdsP_own {β : Type} (n₀ B : Nat) (k : β → Nat) (f : β → List Value) (G : β → Value → Prop) : Own (fun s W => ∃ v, PBox W B v ∧ W.ownsRow n₀ 9 1 v (k s) (f s) ∧ G s v) := by
  rintro s X Y row ⟨v, hv, hr, hG⟩ hg hrow
  refine ⟨v, hv.kept hg (fun e' => ?_), hr.kept hg ?_, hG⟩
  · obtain ⟨o, ho, hc⟩ := hrow B e'.symm
    rw [show X.heap[B]? = _ from hv] at ho; cases ho; cases hc
  · rcases hr.2 with ⟨rfl, _⟩ | ⟨g, cap, cur, rfl, _, hgb, _⟩
    · exact .inl rfl
    · refine .inr fun e' => ?_
      obtain ⟨o, ho, hc⟩ := hrow g (by simpa [Value.ownBlock] using e'.symm)
      rw [hgb] at ho; cases ho; cases hc
theorem PBox.appended {n₀ b₀ k m : Nat} {v' : Value} {xs ys : List Value} {tmp : Obj}
    (hv : PBox W B v) (hrow : W.ownsRow n₀ 9 1 v k xs) (hb₀ : b₀ ≤ n₀) (hn₀ : n₀ ≤ W.heap.size) (hB : b₀ ≤ B)
    (hown' : w1.ownsRow n₀ 9 1 v' m ys) (hgrow : (W.alloc tmp).grownBy w1 v.ownBlock) :
    PBox w1 B v ∧ PBox (w1.setCell ⟨B, 1, none⟩ v') B v' ∧ (w1.setCell ⟨B, 1, none⟩ v').ownsRow n₀ 9 1 v' m ys ∧ KeepsOthers W (w1.setCell ⟨B, 1, none⟩ v') ∧ Below b₀ W (w1.setCell ⟨B, 1, none⟩ v') ∧ ∀ b, b < n₀ → b ≠ B → KB b W (w1.setCell ⟨B, 1, none⟩ v') := by
  have hv1 : PBox w1 B v := (hv.alloc tmp).kept hgrow (hv.not_row hrow)
  have hge : ∀ j, v.ownBlock = some j → n₀ ≤ j := fun j ej => by
    rcases hrow.2 with ⟨rfl, _⟩ | ⟨g, cap, cur, rfl, hb, _, _⟩
    · simp [Value.ownBlock] at ej
    · obtain rfl : g = j := by simpa [Value.ownBlock] using ej
      exact hb
  have hbl : Below b₀ W (w1.setCell ⟨B, 1, none⟩ v') := by
    refine (((Below.refl b₀ W).alloc (by omega) tmp).grown hgrow (by simp; omega) fun j ej => ?_).setCell (p := ⟨B, 1, none⟩) hB v'
    have := hge j ej
    omega
  refine ⟨hv1, hv1.set v', hown'.kept (grownBy_setCell1 w1 B 1 v') (.inr (hv1.not_row hown').symm), ?_, hbl, fun b h1 h2 => ⟨hbl.size, ?_⟩⟩
  · refine ((KeepsOthers.alloc W tmp).trans (KeepsOthers.of_grownBy hgrow fun j o ej hj => ?_)).trans (KeepsOthers.setCell _ _ _)
    rcases (hrow.alloc tmp).2 with ⟨rfl, _⟩ | ⟨g, cap, cur, rfl, _, hgb, _⟩
    · simp [Value.ownBlock] at ej
    · obtain rfl : g = j := by simpa [Value.ownBlock] using ej
      rw [hgb] at hj; cases hj; rfl
  · refine (Below.heap_setCell w1 ⟨B, 1, none⟩ v' b h2).trans ((hgrow.block b (by simp; omega) (fun e => ?_)).trans (Below.heap_alloc W tmp b (by omega)))
    have := hge b e.symm
    omega
end

end Go.Proofs.Ytfklaahakibljaa
