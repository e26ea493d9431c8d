/-
  WALKS: what is asked of a text: control bytes, letters among others, cut sides.
-/
import Derived.Test.YtidpfjdlchffcaaDoorIxc
set_option linter.all false
namespace Go.Proofs
open Go.Shelf Go.RowKit

theorem Tryd.trim_any (s cutset : ByteArray) (w : World) (hs : s.size ≤ 9223372036854775807) (hcs : cutset.size < 4294967281)
    (hascii : (cutset.data.toList.all fun b => decide (b.toNat < 128)) = true) :
    Calls Tryd.prog 16 #[.string s, .string cutset] w fun e w' => e = .returned (.string ⟨(Lib.trimS s.data.toList cutset.data.toList).toArray⟩) ∧ Below w.heap.size w w' :=
  Any.strings_Trim_laid Tryd.trimL (by kernel_rfl) s cutset w hs hcs (fun _ b hb => of_decide_eq_true (List.all_eq_true.1 hascii b (List.mem_of_getElem? hb)))
end Go.Proofs
namespace Go.Proofs.YtidpfjdlchffcaaDoor
open Go.RowKit Go.Lib

def ctlP (x : Nat) : Bool := decide (x < 32) || (x == 127)

/-- Has a text a control byte? -/
def ctl (s : ByteArray) : Bool := decide (0 ≤ Lib.idxFunc ctlP true s)

set_option maxHeartbeats 800000 in
theorem ctlA_any (x : Nat) (hx : x ≤ 1114111) (w : World) : Calls Tryd.prog 73 #[.int .i32 x] w fun e w' => e = .returned (.bool (ctlP x)) ∧ w' = w := by
  unfold ctlP
  by_cases h : x < 32
  · have h2 : (x : Int) < 32 := by omega
    go_enter Tryd.func73, Tryd.ntmps73
    go_wp2
    go_ret
    exact ⟨by simp [h], rfl⟩
  · have h2 : ¬ (x : Int) < 32 := by omega
    have h3 : ((x : Int) == 127) = (x == 127) := by
      by_cases e : x = 127
      · subst e; rfl
      · rw [beq_eq_false_iff_ne.2 e, beq_eq_false_iff_ne.2 (by omega)]
    go_enter Tryd.func73, Tryd.ntmps73
    go_wp2
    go_ret
    exact ⟨by simp [h], rfl⟩

theorem predA (w : World) : PredAtRunes Tryd.prog 73 #[] ctlP w := fun W x hx _ =>
  (ctlA_any x hx W).mono fun _ _ ⟨he, hw⟩ => ⟨he, 0, by rw [hw]; rfl⟩

theorem hasControl_any (s : ByteArray) (w : World) : Calls Tryd.prog 68 #[.string s] w fun e w' => e = .returned (.bool (ctl s)) ∧ Below w.heap.size w w' := by
  have H := hide (fun w => Any.strings_ContainsFunc_runes Tryd.cfunL 73 #[] (fun args w => Go.Proofs.enters_of Tryd.func73 (by kernel_rfl) rfl args w) ctlP s w (predA w))
  unfold ctl
  go_enter Tryd.func68, Tryd.ntmps68
  go_wp2_with (go_at_call 72; refine (H.out _).mono ?_; rintro e w' ⟨rfl, hb⟩; have HB := hide hb; clear hb)
  go_ret
  exact ⟨rfl, HB.out⟩

theorem containsAny_any (s chars : ByteArray) (w : World) (h2 : 2 ≤ chars.size) (hc : chars.size ≤ 1000) (hs : s.size < 4294967281) (ha : Ascii chars) :
    Calls Tryd.prog 69 #[.string s, .string chars] w fun e w' => e = .returned (.bool (Lib.containsAny s.data.toList chars.data.toList)) ∧ Below w.heap.size w w' := by
  have H := hide (fun w => indexAny_any s chars w h2 hc hs ha)
  unfold Lib.containsAny
  clear ha
  generalize Lib.indexAny s.data.toList chars.data.toList = k at *
  go_enter Tryd.func69, Tryd.ntmps69
  go_wp2_with (go_at_call 27; refine (H.out _).mono ?_; rintro e w' ⟨rfl, hb⟩; have HB := hide hb; clear hb)
  go_ret
  exact ⟨rfl, HB.out⟩

end Go.Proofs.YtidpfjdlchffcaaDoor
