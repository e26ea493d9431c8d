/-
  A LAW AT append: one int to a slice of ints that the call owns.
-/
import Derived.Test.YtokghdcfbbogdaaInts
namespace Go.Proofs.Ytokghdcfbbogdaa
open Go.RowKit

theorem info_int : (Try.prog.info? 3).map (fun i => (i.zero, i.size, i.bytes)) = some (some (.int .i64 0), 1, 8) := by kernel_rfl

theorem wpList_append_int {ops : Array Oper} {rest : List Oper} {o : Oper} {a : Act} {W : World} {Q : Exit → Act → World → Prop} (hgd : o.guard = none) (s x : Operand)
    (ho : o.op = .call { callee := .builtin .append, args := #[s, x], argTypes := #[31, 31] }) (base n : Nat) (v : Value) (ns : List Int) (y : Int) (g : Nat) (hs : a.eval s = v)
    (hown : W.ownsRow base 3 1 v n (ns.map (Value.int .i64))) (hx : a.eval x = .slice (some ⟨g, 0, none⟩) 1 1) (hg : g = W.heap.size) (hn : n < 17000000000000) (hbase : base ≤ W.heap.size)
    (h : ∀ v' w', w'.ownsRow base 3 1 v' (n + 1) ((ns ++ [y]).map (Value.int .i64)) → Below base W w' → wpList Try.prog ops Q rest (a.put o.dst v') w') :
    wpList Try.prog ops Q (o :: rest) a (W.alloc (.cells #[.int .i64 y] 3)) := by
  subst hg
  obtain ⟨i0, hi, hz0, hz1, hz2⟩ := info_parts info_int
  refine wpList_append_own _ hgd s x 31 ho base 3 i0 (.int .i64 0) 1 8 Try.underlying31 hi hz0 hz1 hz2 rfl (by decide) v n _ hs (hown.alloc _) _ 1 1 [.int .i64 y] hx rfl ?_ ?_ ?_ ?_ ?_ ?_
  · intro j u hj
    match j, hj with
    | 0, hj => simp at hj; subst hj; simp [Addr.add]
    | _ + 1, hj => simp at hj
  · intro u hu; simp at hu; subst hu; rfl
  · unfold maxLen; omega
  · omega
  · rw [World.size_alloc]; omega
  · intro v' w' hown' hgrow _
    refine h v' w' (by simpa using hown') ?_
    exact (Below.alloc (Below.refl _ _) hbase _).grown hgrow (by rw [World.size_alloc]; omega) (own_block hown)

theorem over_plus {L W w1 : World} {B : Nat} (hB : B = L.heap.size) (h : Below L.heap.size L W) (h1 : Below B W w1) : ∃ os n, w1 = plus L os n := by
  subst hB; exact below_plus (h.trans h1)

theorem own_made {w : World} {e : TypeId} {cs : Array Value} {cap base : Nat} (hcs : cs.size = cap) (hm : cap ≤ maxLen) (hb : base ≤ w.heap.size) : (w.alloc (.cells cs e)).ownsRow base e 1 (.slice (some ⟨w.heap.size, 0, none⟩) 0 cap) 0 [] :=
  ⟨rfl, .inr ⟨w.heap.size, cap, cs, rfl, hb, heap_alloc_new w _, Nat.zero_le _, hm, by omega, by simp⟩⟩
theorem own_none {w : World} {e : TypeId} {base : Nat} : w.ownsRow base e 1 (.slice none 0 0) 0 [] := World.ownsRow_nil _ _ _ _

end Go.Proofs.Ytokghdcfbbogdaa
