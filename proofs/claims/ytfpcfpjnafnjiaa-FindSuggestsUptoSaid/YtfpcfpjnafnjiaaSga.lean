/-
  PLAIN: an index that comes in: where it lies; what is wrong with it.
-/
import Derived.Test.YtfpcfpjnafnjiaaSna
import Derived.Maps.OwnSet
set_option linter.all false
namespace Go.Proofs.Ytfpcfpjnafnjiaa
open Go.RowKit Go.Lib

/-- An entry, a posting, a term of an index. -/
structure En where
  id : Int
  sz : Int
structure Po where
  id : Int
  ns : List Int
structure Te where
  t : ByteArray
  l : List Po
def EnsAt (w : World) (A : Option Addr) (l : List En) : Prop :=
  l.length ≤ maxLen ∧ (0 < l.length → ∃ b o, A = some ⟨b, o, none⟩ ∧ b < w.heap.size ∧ ∀ j (h : j < l.length), w.cell? ⟨b, o + j * 2, none⟩ = some (.int .i64 l[j].id) ∧ w.cell? ⟨b, o + j * 2 + 1, none⟩ = some (.int .i64 l[j].sz))
def NsAt (w : World) (A : Option Addr) (l : List Int) : Prop :=
  l.length ≤ maxLen ∧ (0 < l.length → ∃ b o, A = some ⟨b, o, none⟩ ∧ b < w.heap.size ∧ ∀ j (h : j < l.length), w.cell? ⟨b, o + j, none⟩ = some (.int .i64 l[j]))
def PoAt (w : World) (p : Po) (b o : Nat) : Prop :=
  w.cell? ⟨b, o, none⟩ = some (.int .i64 p.id) ∧ (Lit.int .i64 p.id).wf = true ∧ ∃ A c, w.cell? ⟨b, o + 1, none⟩ = some (.slice A p.ns.length c) ∧ NsAt w A p.ns
def PosAt (w : World) (A : Option Addr) (l : List Po) : Prop :=
  l.length ≤ maxLen ∧ (0 < l.length → ∃ b o, A = some ⟨b, o, none⟩ ∧ b < w.heap.size ∧ ∀ j (h : j < l.length), PoAt w l[j] b (o + j * 2))
def TeAt (w : World) (t : Te) (b o : Nat) : Prop :=
  w.cell? ⟨b, o, none⟩ = some (.string t.t) ∧ ∃ A c, w.cell? ⟨b, o + 1, none⟩ = some (.slice A t.l.length c) ∧ PosAt w A t.l
def TesAt (w : World) (A : Option Addr) (l : List Te) : Prop :=
  l.length ≤ maxLen ∧ (0 < l.length → ∃ b o, A = some ⟨b, o, none⟩ ∧ b < w.heap.size ∧ ∀ j (h : j < l.length), TeAt w l[j] b (o + j * 2))
section
variable {w w' : World}
theorem EnsAt.below {A : Option Addr} {l : List En} (h : EnsAt w A l) (hb : Below w.heap.size w w') : EnsAt w' A l :=
  ⟨h.1, fun hl => by
    obtain ⟨b, o, hA, hlt, hj⟩ := h.2 hl
    exact ⟨b, o, hA, Nat.lt_of_lt_of_le hlt hb.size, fun j h => ⟨(hb.cell (p := ⟨b, o + j * 2, none⟩) hlt).trans (hj j h).1, (hb.cell (p := ⟨b, o + j * 2 + 1, none⟩) hlt).trans (hj j h).2⟩⟩⟩
theorem NsAt.below {A : Option Addr} {l : List Int} (h : NsAt w A l) (hb : Below w.heap.size w w') : NsAt w' A l :=
  ⟨h.1, fun hl => by
    obtain ⟨b, o, hA, hlt, hj⟩ := h.2 hl
    exact ⟨b, o, hA, Nat.lt_of_lt_of_le hlt hb.size, fun j h => (hb.cell (p := ⟨b, o + j, none⟩) hlt).trans (hj j h)⟩⟩
theorem PoAt.below {p : Po} {b o : Nat} (h : PoAt w p b o) (hb : Below w.heap.size w w') (hlt : b < w.heap.size) : PoAt w' p b o := by
  obtain ⟨h1, hw, A, c, h2, h3⟩ := h
  exact ⟨(hb.cell (p := ⟨b, o, none⟩) hlt).trans h1, hw, A, c, (hb.cell (p := ⟨b, o + 1, none⟩) hlt).trans h2, h3.below hb⟩
theorem PosAt.below {A : Option Addr} {l : List Po} (h : PosAt w A l) (hb : Below w.heap.size w w') : PosAt w' A l :=
  ⟨h.1, fun hl => by
    obtain ⟨b, o, hA, hlt, hj⟩ := h.2 hl
    exact ⟨b, o, hA, Nat.lt_of_lt_of_le hlt hb.size, fun j h => (hj j h).below hb hlt⟩⟩
theorem TeAt.below {t : Te} {b o : Nat} (h : TeAt w t b o) (hb : Below w.heap.size w w') (hlt : b < w.heap.size) : TeAt w' t b o := by
  obtain ⟨h1, A, c, h2, h3⟩ := h
  exact ⟨(hb.cell (p := ⟨b, o, none⟩) hlt).trans h1, A, c, (hb.cell (p := ⟨b, o + 1, none⟩) hlt).trans h2, h3.below hb⟩
theorem TesAt.below {A : Option Addr} {l : List Te} (h : TesAt w A l) (hb : Below w.heap.size w w') : TesAt w' A l :=
  ⟨h.1, fun hl => by
    obtain ⟨b, o, hA, hlt, hj⟩ := h.2 hl
    exact ⟨b, o, hA, Nat.lt_of_lt_of_le hlt hb.size, fun j h => (hj j h).below hb hlt⟩⟩
end

/-! ### The entries -/
def gE (l : List En) (i : Nat) : En := l[i]?.getD ⟨0, 0⟩
theorem gE_eq {l : List En} {i : Nat} (h : i < l.length) : gE l i = l[i] := by simp [gE, h]
def entErr (l : List En) (i : Nat) : Int :=
  if (gE l i).id < 1 ∨ 1000000 < (gE l i).id then 2 else if 0 < i ∧ (gE l i).id ≤ (gE l (i - 1)).id then 5 else if (gE l i).sz < 0 ∨ 2000 < (gE l i).sz then 2 else 0
def entsErr (l : List En) : Int := if 2000 < l.length then 4 else firstE (entErr l) l.length
theorem entsErr_many {l : List En} (h : 2000 < l.length) : entsErr l = 4 := if_pos h
theorem entsErr_first {l : List En} (h : ¬ 2000 < l.length) {k : Nat} (hk : k < l.length) (h0 : ∀ j, j < k → entErr l j = 0) (hne : entErr l k ≠ 0) : entsErr l = entErr l k := by
  unfold entsErr
  rw [if_neg h, firstE_first h0 hne hk]
theorem entsErr_none {l : List En} (h : ¬ 2000 < l.length) (h0 : ∀ j, j < l.length → entErr l j = 0) : entsErr l = 0 := by
  unfold entsErr
  rw [if_neg h, firstE_none h0]
/-- What an entry is wrong with, case by case. -/
theorem entErr_cases {l : List En} {k : Nat} (hk : k < l.length) :
    ((l[k].id < 1 ∨ 1000000 < l[k].id) ∧ entErr l k = 2) ∨ ((1 ≤ l[k].id ∧ l[k].id ≤ 1000000) ∧
      ((0 < k ∧ l[k].id ≤ (gE l (k - 1)).id ∧ entErr l k = 5) ∨ ((k = 0 ∨ (gE l (k - 1)).id < l[k].id) ∧
        (((l[k].sz < 0 ∨ 2000 < l[k].sz) ∧ entErr l k = 2) ∨ ((0 ≤ l[k].sz ∧ l[k].sz ≤ 2000) ∧ entErr l k = 0))))) := by
  unfold entErr
  rw [gE_eq hk]
  by_cases h1 : l[k].id < 1 ∨ 1000000 < l[k].id
  · exact .inl ⟨h1, if_pos h1⟩
  · rw [if_neg h1]
    refine .inr ⟨by omega, ?_⟩
    by_cases h2 : 0 < k ∧ l[k].id ≤ (gE l (k - 1)).id
    · exact .inl ⟨h2.1, h2.2, if_pos h2⟩
    · rw [if_neg h2]
      refine .inr ⟨by omega, ?_⟩
      by_cases h3 : l[k].sz < 0 ∨ 2000 < l[k].sz
      · exact .inl ⟨h3, if_pos h3⟩
      · exact .inr ⟨by omega, if_neg h3⟩

/-! ### What the entries say of the blocks' sizes -/
def kI (n : Int) : Lit := .int .i64 n
def mapE (l : List En) : DataW Unit := l.foldl (fun D e => D.put (kI e.id) (.lit (.int .i64 e.sz))) (.map [])
theorem mapE_snoc (l : List En) (e : En) : mapE (l ++ [e]) = (mapE l).put (kI e.id) (.lit (.int .i64 e.sz)) := by
  unfold mapE
  rw [List.foldl_append]
  rfl
def hasE (l : List En) (n : Int) : Bool := Go.Maps.has (mapE l) (kI n)
def sizeE (l : List En) (n : Int) : Int := match (mapE l).atKey (kI n) (.lit (.int .i64 0)) with
  | .lit (.int _ c) => c
  | _ => 0
theorem sizeE_of {l : List En} {n c : Int} (h : (mapE l).atKey (kI n) (.lit (.int .i64 0)) = .lit (.int .i64 c)) : sizeE l n = c := by
  unfold sizeE
  rw [h]

/-! ### The terms -/
def gN (l : List Int) (i : Nat) : Int := l[i]?.getD 0
theorem gN_eq {l : List Int} {i : Nat} (h : i < l.length) : gN l i = l[i] := by simp [gN, h]
def gP (l : List Po) (i : Nat) : Po := l[i]?.getD ⟨0, []⟩
theorem gP_eq {l : List Po} {i : Nat} (h : i < l.length) : gP l i = l[i] := by simp [gP, h]
def gT (l : List Te) (i : Nat) : Te := l[i]?.getD ⟨⟨#[]⟩, []⟩
theorem gT_eq {l : List Te} {i : Nat} (h : i < l.length) : gT l i = l[i] := by simp [gT, h]
/-- A number of a posting that lies outside the block; two that do not rise. -/
def farE (sz : Int) (l : List Int) (i : Nat) : Int := if gN l i < 0 ∨ sz ≤ gN l i then 2 else 0
def fallE (l : List Int) (i : Nat) : Int := if gN l (i + 1) ≤ gN l i then 5 else 0
def nsErr (sz : Int) (l : List Int) : Int := if firstE (farE sz l) l.length ≠ 0 then 2 else firstE (fallE l) (l.length - 1)
def postErr (E : List En) (l : List Po) (i : Nat) : Int :=
  if hasE E (gP l i).id = false then 7 else if 0 < i ∧ (gP l i).id ≤ (gP l (i - 1)).id then 5 else if (gP l i).ns.length = 0 then 1 else nsErr (sizeE E (gP l i).id) (gP l i).ns
def leB (a b : ByteArray) : Bool := Op.bytesLess a.toList b.toList || a.toList == b.toList
def termErr (E : List En) (l : List Te) (i : Nat) : Int :=
  if isWordS (gT l i).t = false ∨ (gT l i).l.length = 0 then 1 else if 0 < i ∧ leB (gT l i).t (gT l (i - 1)).t = true then 5 else firstE (postErr E (gT l i).l) (gT l i).l.length
def ixErr (E : List En) (l : List Te) : Int := if entsErr E ≠ 0 then entsErr E else firstE (termErr E l) l.length

theorem plus_drewN {w : World} {os : Array Obj} {n k : Nat} : (plus w os n).drewN k = plus w os (n + k) := rfl

end Go.Proofs.Ytfpcfpjnafnjiaa
