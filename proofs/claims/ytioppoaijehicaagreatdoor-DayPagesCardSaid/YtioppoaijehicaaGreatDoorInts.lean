/-
  WORDS FOR MEMORY: a slice of ints that reads as a list; what the call owns, in a world with new blocks behind it; slices.Equal of two slices that read alike.
-/
import Derived.Test.YtioppoaijehicaaGreatDoorRows
import Derived.Test.YtioppoaijehicaaGreatDoorBlk
import Derived.WalkSpells
import Derived.WalkLawsBesides
import Derived.Handy
import Derived.Deep.QuietTactic
import Derived.BigQuiet
set_option linter.all false
namespace Go.Proofs.YtioppoaijehicaaGreatDoor
open Go.RowKit

/-- The slice at A reads as the numbers ns. -/
def IntsAt (w : World) (A : Option Addr) (ns : List Int) : Prop :=
  0 < ns.length → ∃ b off, A = some ⟨b, off, none⟩ ∧ b < w.heap.size ∧ ∀ j (h : j < ns.length), w.cell? ⟨b, off + j, none⟩ = some (.int .i64 ns[j])

theorem IntsAt.below {w w' : World} {A : Option Addr} {ns : List Int} (h : IntsAt w A ns) (hb : Below w.heap.size w w') : IntsAt w' A ns := fun hl => by
  obtain ⟨b, off, hA, hlt, hc⟩ := h hl
  exact ⟨b, off, hA, Nat.lt_of_lt_of_le hlt hb.size, fun j hj => (hb.cell (p := ⟨b, off + j, none⟩) hlt).trans (hc j hj)⟩

theorem IntsAt.nil {w : World} {A : Option Addr} : IntsAt w A [] := fun h => absurd h (by simp)

theorem IntsAt.plus {w : World} {A : Option Addr} {ns : List Int} (h : IntsAt w A ns) (os : Array Obj) (n : Nat) : IntsAt (plus w os n) A ns := h.below (bl_plus (Below.refl _ _))

theorem IntsAt.alloc {w : World} {A : Option Addr} {ns : List Int} (h : IntsAt w A ns) (o : Obj) : IntsAt (w.alloc o) A ns := h.below (bl_alloc (Below.refl _ _) o)

/-- What the call owns reads as numbers. -/
theorem intsAt_of_own {w : World} {base : Nat} {e : TypeId} {A : Option Addr} {n c : Nat} {ns : List Int} (h : w.ownsRow base e 1 (.slice A n c) n (ns.map (Value.int .i64))) : IntsAt w A ns := fun hl => by
  have hlen : ns.length = n := by have := h.1; simpa using this
  rcases h.2 with ⟨_, hn⟩ | ⟨g, cap, cur, hv, _, hh, hnc, _, hsz, htake⟩
  · omega
  · injection hv with hA _ _
    refine ⟨g, 0, hA, ?_, fun j hj => ?_⟩
    · rcases Nat.lt_or_ge g w.heap.size with hlt | hge
      · exact hlt
      · rw [Array.getElem?_eq_none hge] at hh; cases hh
    · rw [Nat.zero_add, cell_of_row w g j cur e (0, 0) hh]
      have : (cur.toList.take (n * 1))[j]? = (ns.map (Value.int .i64))[j]? := by rw [htake]
      rw [List.getElem?_take_of_lt (by omega), List.getElem?_map, List.getElem?_eq_getElem hj] at this
      simpa using this

/-- What is owned has the form of a slice. -/
theorem own_form {w : World} {base : Nat} {e : TypeId} {size : Nat} {v : Value} {n : Nat} {xs : List Value} (h : w.ownsRow base e size v n xs) : ∃ A c, v = .slice A n c ∧ n ≤ c ∧ c ≤ maxLen ∧ (A = none → c = 0) := by
  rcases h.2 with ⟨rfl, rfl⟩ | ⟨g, cap, _, rfl, _, _, h1, h2, _⟩
  · exact ⟨none, 0, rfl, Nat.le_refl _, by simp [maxLen], fun _ => rfl⟩
  · exact ⟨_, cap, rfl, h1, h2, fun h => by cases h⟩

theorem own_plus {w : World} {base : Nat} {e : TypeId} {size : Nat} {v : Value} {n : Nat} {xs : List Value} {os : Array Obj} {k : Nat} (h : w.ownsRow base e size v n xs) : (plus w os k).ownsRow base e size v n xs := by
  refine h.kept (row := none) ⟨rfl, rfl, rfl, by rw [plus_size]; omega, fun b hb _ => plus_heap hb⟩ ?_
  cases hv : v.ownBlock with
  | none => exact .inl rfl
  | some g => exact .inr (fun h => by cases h)

/-- Behind an append to what the call owns above L: a world over L once more. -/
theorem grown_plus {L w w1 : World} {row : Option Nat} (hb : Below L.heap.size L w) (hg : w.grownBy w1 row) (hr : ∀ k, row = some k → L.heap.size ≤ k) : ∃ os n, w1 = plus L os n :=
  below_plus (hb.grown hg hb.size hr)

theorem own_block {w : World} {base : Nat} {e : TypeId} {size : Nat} {v : Value} {n : Nat} {xs : List Value} (h : w.ownsRow base e size v n xs) : ∀ k, v.ownBlock = some k → base ≤ k := by
  intro k hk
  rcases h.2 with ⟨rfl, _⟩ | ⟨g, _, _, rfl, hb, _⟩
  · cases hk
  · injection hk with hk; subst hk; exact hb

set_option maxHeartbeats 800000 in
set_option maxRecDepth 100000 in
theorem equalInts_same (A B : Option Addr) (c c' : Nat) (ns : List Int) (w : World) (hA : IntsAt w A ns) (hB : IntsAt w B ns) (hm : ns.length ≤ maxLen) :
    Calls Tryz.prog 12 #[.slice A ns.length c, .slice B ns.length c'] w fun e w' => e = .returned (.bool true) ∧ Below w.heap.size w w' := by
  unfold maxLen at hm
  have HA := hide hA
  have HB := hide hB
  clear hA hB
  go_enter Tryz.func12, Tryz.ntmps12
  go_wp2
  go_loopw [13] (fun i wr => ∃ (k n : Nat), k ≤ ns.length ∧ i = .int .i64 k ∧ wr = w.drewN n) (fun i _ => ns.length - (intOf i).toNat)
  case atStart => exact ⟨0, 0, Nat.zero_le _, rfl, rfl⟩
  case round =>
    obtain ⟨k, n, hk, rfl, rfl⟩ := hrel
    by_cases hlt : k < ns.length
    · obtain ⟨b, off, rfl, hb, hcell⟩ := HA.out (by omega)
      obtain ⟨b', off', rfl, hb', hcell'⟩ := HB.out (by omega)
      have c1 := hcell k hlt
      have c2 := hcell' k hlt
      generalize ns[k] = x at c1 c2
      clear hcell hcell'
      have i1 : (k : Int) < (ns.length : Int) := by omega
      go_wp2
      go_quiet (fail)
      go_wp2
      go_roundw
      case rel => exact ⟨k + 1, _, hlt, by go_num, rfl⟩
      case measure => simp [intOf]; omega
    · have hkl : k = ns.length := by omega
      go_wp2
      go_returns
      exact ⟨rfl, bl_drewN (Below.refl _ _) _⟩

end Go.Proofs.YtioppoaijehicaaGreatDoor
/-
  A LAW AT append: one int to a slice of ints that the call owns.
-/
namespace Go.Proofs.YtioppoaijehicaaGreatDoor
open Go.RowKit

theorem info_int : (Tryz.prog.info? 3).map (fun i => (i.zero, i.size, i.bytes)) = some (some (.int .i64 0), 1, 8) := by kernel_rfl

theorem wpList_append_int {ops : Array Oper} {rest : List Oper} {o : Oper} {a : Act} {W : World} {Q : Exit → Act → World → Prop} (hgd : o.guard = none) (s x : Operand)
    (ho : o.op = .call { callee := .builtin .append, args := #[s, x], argTypes := #[28, 28] }) (base n : Nat) (v : Value) (ns : List Int) (y : Int) (g : Nat) (hs : a.eval s = v)
    (hown : W.ownsRow base 3 1 v n (ns.map (Value.int .i64))) (hx : a.eval x = .slice (some ⟨g, 0, none⟩) 1 1) (hg : g = W.heap.size) (hn : n < 17000000000000) (hbase : base ≤ W.heap.size)
    (h : ∀ v' w', w'.ownsRow base 3 1 v' (n + 1) ((ns ++ [y]).map (Value.int .i64)) → Below base W w' → wpList Tryz.prog ops Q rest (a.put o.dst v') w') :
    wpList Tryz.prog ops Q (o :: rest) a (W.alloc (.cells #[.int .i64 y] 3)) := by
  subst hg
  obtain ⟨i0, hi, hz0, hz1, hz2⟩ := info_parts info_int
  refine wpList_append_own _ hgd s x 28 ho base 3 i0 (.int .i64 0) 1 8 Tryz.underlying28 hi hz0 hz1 hz2 rfl (by decide) v n _ hs (hown.alloc _) _ 1 1 [.int .i64 y] hx rfl ?_ ?_ ?_ ?_ ?_ ?_
  · intro j u hj
    match j, hj with
    | 0, hj => simp at hj; subst hj; simp [Addr.add]
    | _ + 1, hj => simp at hj
  · intro u hu; simp at hu; subst hu; rfl
  · unfold maxLen; omega
  · omega
  · rw [World.size_alloc]; omega
  · intro v' w' hown' hgrow _
    refine h v' w' (by simpa using hown') ?_
    exact (Below.alloc (Below.refl _ _) hbase _).grown hgrow (by rw [World.size_alloc]; omega) (own_block hown)

theorem over_plus {L W w1 : World} {B : Nat} (hB : B = L.heap.size) (h : Below L.heap.size L W) (h1 : Below B W w1) : ∃ os n, w1 = plus L os n := by
  subst hB; exact below_plus (h.trans h1)

theorem own_made {w : World} {e : TypeId} {cs : Array Value} {cap base : Nat} (hcs : cs.size = cap) (hm : cap ≤ maxLen) (hb : base ≤ w.heap.size) : (w.alloc (.cells cs e)).ownsRow base e 1 (.slice (some ⟨w.heap.size, 0, none⟩) 0 cap) 0 [] :=
  ⟨rfl, .inr ⟨w.heap.size, cap, cs, rfl, hb, heap_alloc_new w _, Nat.zero_le _, hm, by omega, by simp⟩⟩

theorem own_none {w : World} {e : TypeId} {base : Nat} : w.ownsRow base e 1 (.slice none 0 0) 0 [] := World.ownsRow_nil _ _ _ _

end Go.Proofs.YtioppoaijehicaaGreatDoor
/-
  WALKS: cmp.Compare and cmp.Or at int.
-/
namespace Go.Proofs.YtioppoaijehicaaGreatDoor
open Go.RowKit

def cmp3 (a b : Int) : Int := if a < b then -1 else if b < a then 1 else 0

def or2 (p q : Int) : Int := if p = 0 then q else p

set_option maxHeartbeats 400000 in
theorem isNaN_any (a : Int) (w : World) :
    Calls Tryz.prog 171 #[.int .i64 a] w fun e w' => e = .returned (.bool false) ∧ w = w' := by
  go_enter Tryz.func171, Tryz.ntmps171
  go_wp2
  go_ret
  exact ⟨by simp, rfl⟩

end Go.Proofs.YtioppoaijehicaaGreatDoor
