/-
  CONTRACTS: what both ways to bring properties together use: names of three lists, a map of names, a value by its name.
-/
import Derived.Test.YtdncmjlakmkfiaaGreatDoorMgg
import Derived.Test.YtdncmjlakmkfiaaGreatDoorMgl
import Derived.Test.YtdncmjlakmkfiaaGreatDoorMgn
import Derived.Test.YtdncmjlakmkfiaaGreatDoorItr
import Derived.Maps.Own
import Derived.Maps.OwnSet
import Derived.Maps.Range
import Derived.WalkKit
set_option linter.all false
namespace Go.Proofs.YtdncmjlakmkfiaaGreatDoor
open Go.RowKit Go.Maps Go.WideMaps

def sel3 {α : Type} (a b c : α) : Nat → α
  | 0 => a
  | 1 => b
  | _ => c

theorem propsErr_le20 {l : List PR} (h : propsErr l = 0) : l.length ≤ 20 := by
  unfold propsErr at h
  by_cases h20 : 20 < l.length
  · rw [if_pos h20] at h; omega
  · omega

theorem cell3 {A0 A1 A2 : Option Addr} {c0 c1 c2 : Nat} {B A C : List PR} {k : Nat} (h : k < 3) : (#[.slice A0 B.length c0, .slice A1 A.length c1, .slice A2 C.length c2] : Array Value)[k]? = some (.slice (sel3 A0 A1 A2 k) (sel3 B A C k).length (sel3 c0 c1 c2 k)) := by
  have : k = 0 ∨ k = 1 ∨ k = 2 := by omega
  rcases this with rfl | rfl | rfl <;> rfl

theorem mgErr_at {B A C : List PR} {k : Nat} (h : ∀ j, j < k → propsErr (sel3 B A C j) = 0) (hk : k < 3) (he : propsErr (sel3 B A C k) ≠ 0) : mgErr B A C = propsErr (sel3 B A C k) := by
  unfold mgErr
  have : k = 0 ∨ k = 1 ∨ k = 2 := by omega
  rcases this with rfl | rfl | rfl
  · have he : propsErr B ≠ 0 := he
    rw [if_pos he]; rfl
  · have h0 : propsErr B = 0 := h 0 (by omega)
    have he : propsErr A ≠ 0 := he
    rw [if_neg (fun g => g h0), if_pos he]; rfl
  · have h0 : propsErr B = 0 := h 0 (by omega)
    have h1 : propsErr A = 0 := h 1 (by omega)
    rw [if_neg (fun g => g h0), if_neg (fun g => g h1)]; rfl

theorem mgErr_none {B A C : List PR} (h : ∀ j, j < 3 → propsErr (sel3 B A C j) = 0) : mgErr B A C = 0 ∧ propsErr B = 0 ∧ propsErr A = 0 ∧ propsErr C = 0 := by
  have h0 : propsErr B = 0 := h 0 (by omega)
  have h1 : propsErr A = 0 := h 1 (by omega)
  have h2 : propsErr C = 0 := h 2 (by omega)
  refine ⟨?_, h0, h1, h2⟩
  unfold mgErr
  rw [if_neg (fun g => g h0), if_neg (fun g => g h1)]
  exact h2

/-- The names of the first lists. -/
def NmIn (B A C : List PR) (k : Nat) (x : List UInt8) : Prop := ∃ j, j < k ∧ ∃ p ∈ sel3 B A C j, p.n.data.toList = x

theorem nmIn_succ {B A C : List PR} {k : Nat} {x : List UInt8} : NmIn B A C (k + 1) x ↔ NmIn B A C k x ∨ ∃ p ∈ sel3 B A C k, p.n.data.toList = x := by
  constructor
  · rintro ⟨j, hj, h⟩
    rcases Nat.lt_or_ge j k with g | g
    · exact .inl ⟨j, g, h⟩
    · obtain rfl : j = k := by omega
      exact .inr h
  · rintro (⟨j, hj, h⟩ | h)
    · exact ⟨j, by omega, h⟩
    · exact ⟨k, by omega, h⟩

/-- .. and of the first properties of one list more. -/
def NmAt (B A C : List PR) (k : Nat) (L : List PR) (j : Nat) (x : List UInt8) : Prop := NmIn B A C k x ∨ ∃ p ∈ L.take j, p.n.data.toList = x

theorem nmAt_zero {B A C L : List PR} {k : Nat} {x : List UInt8} : NmIn B A C k x ↔ NmAt B A C k L 0 x := by
  unfold NmAt
  constructor
  · exact .inl
  · rintro (h | ⟨p, hp, -⟩)
    · exact h
    · simp at hp

theorem nmAt_succ {B A C L : List PR} {k j : Nat} {x : List UInt8} (h : j < L.length) : (NmAt B A C k L j x ∨ L[j].n.data.toList = x) ↔ NmAt B A C k L (j + 1) x := by
  unfold NmAt
  rw [List.take_succ_eq_append_getElem h, or_assoc]
  refine or_congr_right ?_
  constructor
  · rintro (⟨p, hp, e⟩ | e)
    · exact ⟨p, List.mem_append.2 (.inl hp), e⟩
    · exact ⟨_, List.mem_append.2 (.inr (List.mem_singleton.2 rfl)), e⟩
  · rintro ⟨p, hp, e⟩
    rcases List.mem_append.1 hp with hp | hp
    · exact .inl ⟨p, hp, e⟩
    · rw [List.mem_singleton.1 hp] at e; exact .inr e

theorem nmAt_end {B A C L : List PR} {k : Nat} (hL : sel3 B A C k = L) {x : List UInt8} : NmAt B A C k L L.length x ↔ NmIn B A C (k + 1) x := by
  rw [nmIn_succ, hL]
  unfold NmAt
  rw [List.take_length]

theorem nmIn_all {B A C : List PR} {x : ByteArray} : NmIn B A C 3 x.data.toList ↔ x ∈ allNames B A C := by
  have e : ∀ {p : PR}, p.n.data.toList = x.data.toList ↔ p.n = x := fun {p} => ⟨fun h => by rw [← show bStr p.n.data.toList = p.n by simp [bStr], h]; simp [bStr], fun h => by rw [h]⟩
  unfold allNames
  rw [List.mem_map]
  constructor
  · rintro ⟨j, hj, p, hp, h⟩
    have hj3 : j = 0 ∨ j = 1 ∨ j = 2 := by omega
    refine ⟨p, ?_, e.1 h⟩
    rw [List.mem_append, List.mem_append]
    rcases hj3 with rfl | rfl | rfl
    · exact .inl hp
    · exact .inr (.inl hp)
    · exact .inr (.inr hp)
  · rintro ⟨p, hp, h⟩
    rw [List.mem_append, List.mem_append] at hp
    rcases hp with hp | hp | hp
    · exact ⟨0, by omega, p, hp, e.2 h⟩
    · exact ⟨1, by omega, p, hp, e.2 h⟩
    · exact ⟨2, by omega, p, hp, e.2 h⟩

theorem lawS : Keyed Tryz.prog 9 := string_keyed Tryz.underlying9

/-- A map of names, with which names it has. -/
structure NM (w W : World) (n : Nat) (D : DataW Unit) (S : List UInt8 → Prop) : Prop where
  own : World.ownsMap W Tryz.prog 9 (plainElem (H := Unit) Tryz.prog 4) w.heap.size n D
  has : ∀ x, Maps.has D (.string x) = true ↔ S x
  bel : Below w.heap.size w W
section
variable {w W W' : World} {n : Nat} {D : DataW Unit} {S S' : List UInt8 → Prop}

theorem NM.grown (h : NM w W n D S) {row : Option Nat} (hg : W.grownBy W' row) (hne : some w.heap.size ≠ row) (hb : Below w.heap.size W W') : NM w W' n D S := ⟨h.own.kept hg hne, h.has, h.bel.trans hb⟩

theorem NM.below (h : NM w W n D S) (hb : Below W.heap.size W W') : NM w W' n D S := by
  refine h.grown (row := none) ⟨hb.os, hb.tape, hb.output, hb.size, fun k hk _ => hb.block k hk⟩ (by simp) (hb.mono h.bel.size)

theorem NM.same (h : NM w W n D S) (hs : ∀ x, S x ↔ S' x) : NM w W n D S' := ⟨h.own, fun x => (h.has x).trans (hs x), h.bel⟩

theorem NM.more (h : NM w W n D S) {m : Nat} (hm : n ≤ m) : NM w W m D S := ⟨h.own.mono hm, h.has, h.bel⟩

theorem NM.put (h : NM w W n D S) {x : List UInt8} (ho : World.ownsMap W' Tryz.prog 9 (plainElem (H := Unit) Tryz.prog 4) w.heap.size (n + 1) (D.put (.string x) (.lit (.bool true)))) (hg : W.grownBy W' (some w.heap.size)) : NM w W' (n + 1) (D.put (.string x) (.lit (.bool true))) (fun y => S y ∨ x = y) := by
  refine ⟨ho, fun y => ?_, h.bel.grown hg h.bel.size (fun k hk => by injection hk with hk; omega)⟩
  by_cases e : x = y
  · subst e
    rw [has_put_same h.own.isMap (by trivial)]
    exact ⟨fun _ => .inr rfl, fun _ => rfl⟩
  · rw [has_put_other (fun e2 => e (by injection e2 with e2; exact e2.symm)), h.has y]
    exact ⟨.inl, fun h => h.resolve_right e⟩

theorem nm_made (w : World) : NM w (w.alloc (.map #[] 0)) 0 (.map []) (fun _ => False) := ⟨World.ownsMap_made w _ _ _, fun x => by simp [Maps.has], bl_alloc (Below.refl _ _) _⟩

/-- The keys of such a map. -/
theorem NM.keys (h : NM w W n D S) : (strKeys D).Nodup ∧ ∀ x, x ∈ strKeys D ↔ S x := by
  obtain ⟨es, rfl, hp, -⟩ := h.own.entries lawS
  obtain ⟨es', hD, hko⟩ := h.own.keysOf
  obtain rfl : es = es' := by simpa using hD
  have hk : ∀ p ∈ es, ∃ x, p.1 = .string x := fun p hp => by
    obtain ⟨v, hv⟩ := hko p hp
    obtain ⟨x, _, hx, _⟩ := Maps.keyOf_str Tryz.underlying9 hv
    exact ⟨x, hx⟩
  refine ⟨?_, fun x => ?_⟩
  · show (es.map fun p => strOf p.1).Nodup
    refine List.pairwise_map.2 (hp.imp_of_mem fun {p q} hp' hq' hne e => hne ?_)
    obtain ⟨a, ha⟩ := hk p hp'
    obtain ⟨b, hb⟩ := hk q hq'
    rw [ha, hb] at e ⊢
    exact congrArg _ e
  · rw [← h.has x, has_eq, List.any_eq_true]
    show x ∈ es.map (fun p => strOf p.1) ↔ _
    rw [List.mem_map]
    constructor
    · rintro ⟨p, hp', rfl⟩
      obtain ⟨a, ha⟩ := hk p hp'
      exact ⟨p, hp', by rw [ha]; simp [Lit.sameKey, strOf]⟩
    · rintro ⟨p, hp', hs⟩
      obtain ⟨a, ha⟩ := hk p hp'
      rw [ha] at hs
      exact ⟨p, hp', by rw [ha]; simpa [Lit.sameKey, strOf] using hs⟩
end

/-- maps.Keys at such a map. -/
theorem keysM_any (b : Nat) (W : World) : Calls Tryz.prog 37 #[.map (some b)] W fun e w' => e = .returned (.func (.func 76) #[] #[.pointer (some ⟨W.heap.size, 0, none⟩)]) ∧ w' = W.alloc (.cells #[.map (some b)] 100) :=
  callsIn_wide.1 (Tryz.maps_Keys_37 (some b) W)

/-- Sorted names out of such a map: they rise. -/
theorem sortedM_any (w W : World) (n : Nat) (D : DataW Unit) (S : List UInt8 → Prop) (h : NM w W n D S) (hn : n ≤ 1000) :
    Calls Tryz.prog 36 #[.func (.func 76) #[] #[.pointer (some ⟨W.heap.size, 0, none⟩)]] (W.alloc (.cells #[.map (some w.heap.size)] 100)) fun e w' => ∃ (A : Option Addr) (c : Nat) (nms : List ByteArray), e = .returned (.slice A nms.length c) ∧ Rise nms ∧ (∀ x : ByteArray, x ∈ nms ↔ S x.data.toList) ∧ nms.length ≤ n ∧ SAt w' A nms ∧ Below W.heap.size W w' := by
  have hs : Maps.size D ≤ n := h.own.size_le
  refine (callsIn_wide.1 (Tryz.slices_Sorted_keys_36_37 w.heap.size n D _ W h.own (by unfold maxLen; omega) (by omega))).mono ?_
  rintro e w' ⟨v, ss, rfl, hp, ho, -, hb⟩
  obtain ⟨hnd, hmem⟩ := h.keys
  obtain ⟨hr, hm⟩ := rise_merge (hp.nodup_iff.2 hnd)
  have hl : ((ss.mergeSort (fun x y => decide (x ≤ y))).map bStr).length = ss.length := by rw [List.length_map, List.length_mergeSort]
  have ho2 := ownK_of_owns ho
  rw [← strV_b, ← hl] at ho2
  obtain ⟨A, c, rfl, -⟩ := ownK_form ho2
  obtain ⟨-, -, hsat⟩ := sAt_of_own ho2
  refine ⟨A, c, _, rfl, hr, fun x => ?_, ?_, hsat, below_chain (bl_alloc (Below.refl _ _) _) (hb.mono (by simp))⟩
  · rw [hm x, hp.mem_iff, hmem]
  · rw [hl, hp.length_eq]
    have h9 : (strKeys D).length = Maps.size D := by cases D <;> simp [strKeys, Maps.size]
    omega

/-- The value of a name, in a list of right values. -/
theorem getM_any (A : Option Addr) (c : Nat) (l : List PR) (x : ByteArray) (w : World) (hA : PsAt w A l) (hF : ∀ p ∈ l, Few p.v) :
    Calls Tryz.prog 38 #[.slice A l.length c, .string x] w fun e w' => ∃ A2 c2 b, e = .returned (.tuple #[(gv l x).arg A2 c2, .bool b]) ∧ LAt w' A2 (gv l x).l ∧ Below w.heap.size w w' := by
  obtain ⟨ps, hps, hpc⟩ := hA.open_
  subst hps
  rw [List.length_map]
  refine (get_any A c ps x w hpc (fun p hp => (hF p.pr (List.mem_map_of_mem hp)).fits) hA).mono ?_
  rintro e w' ⟨v, A2, c2, b, rfl, h1, h2, h3⟩
  obtain rfl := gv_is h2
  exact ⟨A2, c2, b, rfl, h1, h3⟩

theorem getRM_any (A : Option Addr) (c : Nat) (l : List PR) (x : ByteArray) (w : World) (hA : PsAt w A l) :
    Calls Tryz.prog 45 #[.slice A l.length c, .string x] w fun e w' => ∃ A2 c2 b, e = .returned (.tuple #[(gv l x).arg A2 c2, .bool b]) ∧ LAt w' A2 (gv l x).l ∧ Below w.heap.size w w' := by
  refine (getR_any A c l x w hA).mono ?_
  rintro e w' ⟨v, A2, c2, b, rfl, h1, h2, h3⟩
  obtain rfl := gv_is h2
  exact ⟨A2, c2, b, rfl, h1, h3⟩

end Go.Proofs.YtdncmjlakmkfiaaGreatDoor
