/-
  WALKS: the units of a rule: days and weeks.
-/
import Derived.Test.YtpbkidjbbhkjnaaRbd
import Derived.Test.YtpbkidjbbhkjnaaInts
import Derived.Deep.DeepCutAuto
namespace Go.Proofs.Ytpbkidjbbhkjnaa
open Go.RowKit Cal

/-- What a unit hands back: the days of a period, and whether it is behind all days. -/
def UnitOut (r : Rul) (k : Nat) (w : World) (e : Ending) (w' : World) : Prop :=
  Below w.heap.size w w' ∧ ((r.blk k ≤ 100000 ∧ ∃ A c, e = .returned (.tuple #[.slice A (r.pl k).length c, .bool true]) ∧ IntsAt w' A (r.pl k) ∧ (0 < (r.pl k).length → ∀ a, A = some a → w.heap.size ≤ a.block) ∧ (r.pl k).length ≤ 1000) ∨
    (100000 < r.blk k ∧ ∃ A n c, e = .returned (.tuple #[.slice A n c, .bool false])))
theorem unit_yes {r : Rul} {k : Nat} {w w' : World} {l : List Int} {A : Option Addr} {c : Nat} (h : r.blk k ≤ 100000) (hl : r.pl k = l) (hi : IntsAt w' A l) (hn : 0 < l.length → ∀ a, A = some a → w.heap.size ≤ a.block) (hm : l.length ≤ 1000) (hb : Below w.heap.size w w') :
    UnitOut r k w (.returned (.tuple #[.slice A l.length c, .bool true])) w' := by
  subst hl
  exact ⟨hb, .inl ⟨h, A, c, rfl, hi, hn, hm⟩⟩
theorem unit_no {r : Rul} {k : Nat} {w w' : World} {A : Option Addr} {n c : Nat} (h : 100000 < r.blk k) (hb : Below w.heap.size w w') :
    UnitOut r k w (.returned (.tuple #[.slice A n c, .bool false])) w' := ⟨hb, .inr ⟨h, A, n, c, rfl⟩⟩

theorem k_mul {k : Nat} {e : Int} (hk : k ≤ 100001) (he : 1 ≤ e ∧ e ≤ 1000) : 0 ≤ (k : Int) * e ∧ (k : Int) * e ≤ 100001000 :=
  mul_bd (by omega) (n := 1000) (m := 100001) (by omega) (by omega) he.2
theorem ints_one {w' : World} {g : Nat} {d : Int} (h : w'.cell? ⟨g, 0, none⟩ = some (.int .i64 d)) : IntsAt w' (some ⟨g, 0, none⟩) [d] := fun _ => by
  refine ⟨g, 0, rfl, ?_, fun j hj => ?_⟩
  · rcases Nat.lt_or_ge g w'.heap.size with hlt | hge
    · exact hlt
    · unfold World.cell? at h
      rw [Array.getElem?_eq_none hge] at h
      simp at h
  · have : j = 0 := by simpa using hj
    subst this
    exact h

set_option maxHeartbeats 1600000 in
set_option maxRecDepth 100000 in
theorem daysOf_any (r : Rul) (h : r.Ok) (hu : r.u = 1) (k : Nat) (hk : k ≤ 100001) (v : Value) (w : World) (hr : RulAt w r v) :
    Calls Try.prog 83 #[v, .int .i64 k] w (UnitOut r k w) := by
  obtain ⟨A, B, C, a, b, c, rfl, h1, h2, h3, h4, h5, h6⟩ := hr.ex
  unfold maxLen at h4 h5 h6
  have hpl := r.pl_days h hu k
  have hblk : r.blk k = r.f + (k : Int) * r.e := by unfold Rul.blk; rw [if_pos hu]
  have hm := k_mul hk h.e
  have hf := h.f
  have HPO : Hid ((∀ w' A c, r.blk k ≤ 100000 → IntsAt w' A (r.pl k) → (0 < (r.pl k).length → ∀ a, A = some a → w.heap.size ≤ a.block) → Below w.heap.size w w' → UnitOut r k w (.returned (.tuple #[.slice A 1 c, .bool true])) w') ∧
      (∀ w' A n c, 100000 < r.blk k → Below w.heap.size w w' → UnitOut r k w (.returned (.tuple #[.slice A n c, .bool false])) w')) :=
    hide ⟨fun w' A c ha hi hn hb => by have := unit_yes (c := c) ha rfl hi hn (by rw [hpl]; simp) hb; rwa [hpl] at this, fun w' A n c ha hb => unit_no ha hb⟩
  generalize UnitOut r k w = PO at *
  rw [hpl, hblk] at HPO
  clear hpl hblk h1 h2 h3 h hr
  obtain ⟨u, e, f, t, cc, n, wd, da, sk⟩ := r
  simp only at *
  obtain ⟨hm1, hm2⟩ := hm
  obtain ⟨hf1, hf2⟩ := hf
  generalize hq : (k : Int) * e = q at *
  have HQ := hide hq
  clear hq hu
  have hmul : IntKind.i64.wrap ((k : Int) * e) = q := by rw [HQ.out]; exact IntWalk.i64_in _ (by omega)
  by_cases hd : f + q ≤ 100000
  · go_enter Try.func83, Try.ntmps83
    go_wp2
    refine HPO.out.1 _ _ _ hd (ints_one (by first | rfl | simp [go_sem])) (fun _ a ha => ?_) (by repeat (first | exact Below.refl _ _ | refine bl_plus ?_ | refine bl_alloc ?_ _ | refine bl_drew ?_ | refine bl_drewN ?_ _))
    injection ha with ha
    subst ha
    simp
  · go_enter Try.func83, Try.ntmps83
    go_wp2
    exact HPO.out.2 _ _ _ _ (by omega) (by repeat (first | exact Below.refl _ _ | refine bl_plus ?_ | refine bl_alloc ?_ _ | refine bl_drew ?_ | refine bl_drewN ?_ _))

end Go.Proofs.Ytpbkidjbbhkjnaa
