/-
  WALK: the Replace of a new Replacer of two bytes.
-/
import Derived.Test.YtjaoiehjhnmahaaGreatDoorRpg
set_option linter.all false
namespace Go.Proofs.YtjaoiehjhnmahaaGreatDoor
open Go.RowKit Go.Lib

theorem below_grown0 {w0 a b : World} {g : Nat} (h : w0.grownBy a (some g)) (hb : Below a.heap.size a b) : w0.grownBy b (some g) :=
  ⟨hb.os.trans h.os, hb.tape.trans h.tape, hb.output.trans h.output, Nat.le_trans h.size hb.size, fun k hk hne => (hb.block k (Nat.lt_of_lt_of_le hk h.size)).trans (h.block k hk hne)⟩

set_option maxRecDepth 100000 in
theorem replaceNew_any (g : Nat) (A : Option Addr) (c : Nat) (w : World) (h : Blk w g 215 (repCells 0 0 .nilIface (.slice A 4 c))) (h4 : FourAt w A) (s : ByteArray) (hs : s.size ≤ 100000) :
    Calls Tryz.prog 70 #[.pointer (some ⟨g, 0, none⟩), .string s] w fun e w' => e = .returned (.string (escS s)) ∧ w.grownBy w' (some g) := by
  have HDO := hide (doNew_any g A c w h h4)
  clear h h4
  go_enter Tryz.func70, Tryz.ntmps70
  go_wp2_with (first | (go_at_call 138; refine HDO.out.mono ?_; rintro e w1 ⟨rfl, hg1, gb, hb1, ht1⟩; have HG1 := hide hg1; have k3 : w1.cell? ⟨g, 3, none⟩ = some (.iface 284 (.pointer (some ⟨gb, 0, none⟩))) := hb1.cell 3; have HT1 := hide ht1; clear hg1 ht1 hb1) | (go_at_call 332; obtain ⟨ga, gc, gt, ca, cc, ct, ht⟩ := HT1.out.at_; refine (tabReplace_any s _ gb ga gc gt ca cc ct ht hs).mono ?_; rintro e w' ⟨rfl, hb2⟩; have HB2 := hide hb2; clear hb2 ht))
  go_ret
  exact ⟨rfl, below_grown0 HG1.out HB2.out⟩

end Go.Proofs.YtjaoiehjhnmahaaGreatDoor
