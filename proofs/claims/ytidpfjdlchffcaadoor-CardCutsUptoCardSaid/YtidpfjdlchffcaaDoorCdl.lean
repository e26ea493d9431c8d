/-
  THE SHELF's CONTRACTS OF strings.HasPrefix, Cut, Trim AND OF A BUILDER AT THIS PROGRAM: the tables of numbers, printed in plain words (numbers of this seat).
-/
import Derived.Shelf.Strings.Prefix
import Derived.Shelf.Strings.Cut
import Derived.Shelf.Strings.OnBuilder
import Derived.Shelf.Strings.Builder1
import Derived.Shelf.Strings.SlTrimAscii
import Derived.Shelf.LaysM
import Derived.Test.YtidpfjdlchffcaaDoorRows
import Derived.Test.YtidpfjdlchffcaaDoorIxl
import Derived.Below
set_option linter.all false
namespace Go.Proofs
open Go.Shelf Go.RowKit

def Tryd.prefL_ren : Go.Shelf.Ren := ⟨fun | 99 => 26 | 206 => 44 | n => n, fun | 9 => 9 | 4 => 4 | 3 => 3 | n => n, fun | n => n⟩

theorem Tryd.prefL : Go.Proofs.Lays.n99 Tryd.prog Tryd.prefL_ren := {
  mixed := by kernel_rfl
  f99 := Tryd.func26.trans (congrArg some (by kernel_rfl))
  f206 := Tryd.func44.trans (congrArg some (by kernel_rfl))
  t3 := Tryd.underlying3
  a3 := Tryd.isAgg3
  z3 := Tryd.sizeOf3
  v3 := Tryd.zeroValue3
  t4 := Tryd.underlying4
  a4 := Tryd.isAgg4
  z4 := Tryd.sizeOf4
  v4 := Tryd.zeroValue4
  t9 := Tryd.underlying9
  a9 := Tryd.isAgg9
  z9 := Tryd.sizeOf9
  v9 := Tryd.zeroValue9 }

def Tryd.cutL_ren : Go.Shelf.Ren := ⟨fun | 145 => 28 | 220 => 48 | 219 => 64 | 217 => 70 | 225 => 63 | 224 => 62 | 267 => 71 | 266 => 74 | 314 => 75 | n => n, fun | 9 => 9 | 4 => 4 | 59 => 59 | 3 => 3 | 5 => 5 | 46 => 100 | 146 => 109 | 51 => 108 | n => n, fun | 1 => 0 | n => n⟩

theorem Tryd.cutL : Go.Proofs.LaysM.n145 Tryd.prog Tryd.cutL_ren := {
  mixed := by kernel_rfl
  f145 := Tryd.func28.trans (congrArg some (by kernel_rfl))
  f217 := Tryd.func70.trans (congrArg some (by kernel_rfl))
  f219 := Tryd.func64.trans (congrArg some (by kernel_rfl))
  f220 := Tryd.func48.trans (congrArg some (by kernel_rfl))
  f224 := Tryd.func62.trans (congrArg some (by kernel_rfl))
  f225 := Tryd.func63.trans (congrArg some (by kernel_rfl))
  f266 := Tryd.func74.trans (congrArg some (by kernel_rfl))
  f267 := Tryd.func71.trans (congrArg some (by kernel_rfl))
  f314 := Tryd.func75.trans (congrArg some (by kernel_rfl))
  t3 := Tryd.underlying3
  a3 := Tryd.isAgg3
  z3 := Tryd.sizeOf3
  v3 := Tryd.zeroValue3
  t4 := Tryd.underlying4
  a4 := Tryd.isAgg4
  z4 := Tryd.sizeOf4
  v4 := Tryd.zeroValue4
  t5 := Tryd.underlying5
  a5 := Tryd.isAgg5
  z5 := Tryd.sizeOf5
  v5 := Tryd.zeroValue5
  t9 := Tryd.underlying9
  a9 := Tryd.isAgg9
  z9 := Tryd.sizeOf9
  v9 := Tryd.zeroValue9
  t46 := Tryd.underlying100
  a46 := Tryd.isAgg100
  z46 := Tryd.sizeOf100
  v46 := Tryd.zeroValue100
  t51 := Tryd.underlying108
  a51 := Tryd.isAgg108
  z51 := Tryd.sizeOf108
  v51 := Tryd.zeroValue108
  t59 := Tryd.underlying59
  a59 := Tryd.isAgg59
  z59 := Tryd.sizeOf59
  v59 := Tryd.zeroValue59
  t146 := Tryd.underlying109
  a146 := Tryd.isAgg109
  z146 := Tryd.sizeOf109
  v146 := Tryd.zeroValue109
  g1 := by kernel_rfl
  i3 := by kernel_rfl
  i4 := by kernel_rfl
  i5 := by kernel_rfl
  i9 := by kernel_rfl
  i46 := by kernel_rfl
  i51 := by kernel_rfl
  i59 := by kernel_rfl
  i146 := by kernel_rfl
  m1 := by kernel_rfl
  s1_3 := fun w h => Go.Proofs.cell_of_shapedOpen_int (zero := #[.int .i64 0]) (t := 3) h (of_decide_eq_true (by kernel_rfl)) (by kernel_rfl) rfl (by kernel_rfl) (by kernel_rfl) Tryd.underlying3 }

def Tryd.repL_ren : Go.Shelf.Ren := ⟨fun | 169 => 30 | n => n, fun | 70 => 61 | 9 => 9 | 0 => 0 | 72 => 64 | 37 => 62 | 127 => 90 | 3 => 3 | 5 => 5 | n => n, fun | n => n⟩

theorem Tryd.repL : Go.Proofs.Lays.n169 Tryd.prog Tryd.repL_ren := {
  mixed := by kernel_rfl
  f169 := Tryd.func30.trans (congrArg some (by kernel_rfl))
  t0 := Tryd.underlying0
  a0 := Tryd.isAgg0
  z0 := Tryd.sizeOf0
  v0 := Tryd.zeroValue0
  t3 := Tryd.underlying3
  a3 := Tryd.isAgg3
  z3 := Tryd.sizeOf3
  v3 := Tryd.zeroValue3
  t9 := Tryd.underlying9
  a9 := Tryd.isAgg9
  z9 := Tryd.sizeOf9
  v9 := Tryd.zeroValue9
  t37 := Tryd.underlying62
  a37 := Tryd.isAgg62
  z37 := Tryd.sizeOf62
  v37 := Tryd.zeroValue62
  t70 := Tryd.underlying61
  a70 := Tryd.isAgg61
  z70 := Tryd.sizeOf61
  v70 := Tryd.zeroValue61
  t72 := Tryd.underlying64
  a72 := Tryd.isAgg64
  z72 := Tryd.sizeOf64
  v72 := Tryd.zeroValue64
  t127 := Tryd.underlying90
  a127 := Tryd.isAgg90
  z127 := Tryd.sizeOf90
  v127 := Tryd.zeroValue90 }


theorem Tryd.hasPrefix_any (s p : ByteArray) (w : World) :
    Calls Tryd.prog 26 #[.string s, .string p] w fun e w' => e = .returned (.bool (Lib.hasPrefix s.data.toList p.data.toList)) ∧ w' = w :=
  Any.strings_HasPrefix Tryd.prefL s p w

/-- The bound of the fast search is a number, whichever. -/
def YtidpfjdlchffcaaDoor.MaxTold (w : World) : Prop := ∃ m, w.cell? ⟨0, 0, none⟩ = some (.int .i64 m)

theorem YtidpfjdlchffcaaDoor.maxTold_shaped {w : World} (h : w.ShapedOpen Tryd.prog) : YtidpfjdlchffcaaDoor.MaxTold w := Tryd.cutL.s1_3 w h

theorem YtidpfjdlchffcaaDoor.maxTold_below {w w' : World} (h : YtidpfjdlchffcaaDoor.MaxTold w) (hb : Below w.heap.size w w') : YtidpfjdlchffcaaDoor.MaxTold w' := by
  obtain ⟨m, hm⟩ := h
  refine ⟨m, (hb.cell ?_).trans hm⟩
  rcases Nat.lt_or_ge 0 w.heap.size with hh | hh
  · exact hh
  · simp [World.cell?, Array.getElem?_eq_none hh] at hm

theorem Tryd.cut_any (s sep : ByteArray) (w : World) (h : YtidpfjdlchffcaaDoor.MaxTold w) (hs : s.size < 4294967281) :
    Calls Tryd.prog 28 #[.string s, .string sep] w fun e w' => e = .returned (.tuple #[.string ⟨(Lib.cut s.data.toList sep.data.toList).1.toArray⟩, .string ⟨(Lib.cut s.data.toList sep.data.toList).2.1.toArray⟩, .bool (Lib.cut s.data.toList sep.data.toList).2.2]) ∧ ∃ n, w' = w.drewN n :=
  let ⟨m, hm⟩ := h
  Any.strings_Cut { Tryd.cutL with } s sep m w hs hm

theorem Tryd.trim_any (s cutset : ByteArray) (w : World) (hs : s.size ≤ 9223372036854775807) (hcs : cutset.size < 4294967281)
    (hascii : (cutset.data.toList.all fun b => decide (b.toNat < 128)) = true) :
    Calls Tryd.prog 16 #[.string s, .string cutset] w fun e w' => e = .returned (.string ⟨(Lib.trimS s.data.toList cutset.data.toList).toArray⟩) ∧ Below w.heap.size w w' :=
  Any.strings_Trim_laid Tryd.trimL (by kernel_rfl) s cutset w hs hcs (fun _ b hb => of_decide_eq_true (List.all_eq_true.1 hascii b (List.mem_of_getElem? hb)))

theorem Tryd.repX : Builder.Extra Tryd.prog Tryd.repL_ren := {
  sizeBuilder := by kernel_rfl
  liesBuilder := by kernel_rfl
  t5 := by kernel_rfl
  a5 := fun _ => by kernel_rfl
  z5 := fun _ => by kernel_rfl
  v5 := fun _ => by kernel_rfl
  infoByte := by kernel_rfl
  cellsByte := by kernel_rfl
  sizeByte := by kernel_rfl
  neB5 := by decide }

def Tryd.wstrL_ren : Go.Shelf.Ren := ⟨fun | 166 => 29 | 240 => 49 | 276 => 65 | n => n, fun | 0 => 0 | 3 => 3 | 4 => 4 | 5 => 5 | 9 => 9 | 20 => 20 | 37 => 62 | 70 => 61 | 72 => 64 | 75 => 66 | 164 => 101 | 80 => 69 | n => n, fun | n => n⟩

theorem Tryd.wstrL : Go.Proofs.Lays.n166 Tryd.prog Tryd.wstrL_ren := {
  mixed := Tryd.prefL.mixed
  f166 := Tryd.func29.trans (congrArg some (by kernel_rfl))
  f240 := Tryd.func49.trans (congrArg some (by kernel_rfl))
  f276 := Tryd.func65.trans (congrArg some (by kernel_rfl))
  t0 := Tryd.underlying0
  a0 := Tryd.isAgg0
  z0 := Tryd.sizeOf0
  v0 := Tryd.zeroValue0
  t3 := Tryd.underlying3
  a3 := Tryd.isAgg3
  z3 := Tryd.sizeOf3
  v3 := Tryd.zeroValue3
  t4 := Tryd.underlying4
  a4 := Tryd.isAgg4
  z4 := Tryd.sizeOf4
  v4 := Tryd.zeroValue4
  t9 := Tryd.underlying9
  a9 := Tryd.isAgg9
  z9 := Tryd.sizeOf9
  v9 := Tryd.zeroValue9
  t20 := Tryd.underlying20
  a20 := Tryd.isAgg20
  z20 := Tryd.sizeOf20
  v20 := Tryd.zeroValue20
  t37 := Tryd.underlying62
  a37 := Tryd.isAgg62
  z37 := Tryd.sizeOf62
  v37 := Tryd.zeroValue62
  t70 := Tryd.underlying61
  a70 := Tryd.isAgg61
  z70 := Tryd.sizeOf61
  v70 := Tryd.zeroValue61
  t72 := Tryd.underlying64
  a72 := Tryd.isAgg64
  z72 := Tryd.sizeOf64
  v72 := Tryd.zeroValue64
  t75 := Tryd.underlying66
  a75 := Tryd.isAgg66
  z75 := Tryd.sizeOf66
  v75 := Tryd.zeroValue66
  t164 := Tryd.underlying101
  a164 := Tryd.isAgg101
  z164 := Tryd.sizeOf101
  v164 := Tryd.zeroValue101 }

theorem Tryd.wstrX : Builder.Extra Tryd.prog Tryd.wstrL_ren := {
  sizeBuilder := by kernel_rfl
  liesBuilder := by kernel_rfl
  t5 := by kernel_rfl
  a5 := fun _ => by kernel_rfl
  z5 := fun _ => by kernel_rfl
  v5 := fun _ => by kernel_rfl
  infoByte := by kernel_rfl
  cellsByte := by kernel_rfl
  sizeByte := by kernel_rfl
  neB5 := by decide }

/-- A builder of the call's own that holds the bytes l. -/
def YtidpfjdlchffcaaDoor.Bld (w : World) (g : Nat) (l : List UInt8) : Prop := Lib.IsBuilder 64 5 g g (Lib.byteCells l) w

theorem Tryd.bldWrite (g : Nat) (l : List UInt8) (s : ByteArray) (w : World) (h : YtidpfjdlchffcaaDoor.Bld w g l) (hlen : l.length + s.size ≤ 140737488355328) (hg : g ≤ w.heap.size) :
    Calls Tryd.prog 29 #[.pointer (some ⟨g, 0, none⟩), .string s] w fun e w' => e = .returned (.tuple #[.int .i64 s.size, .nilIface]) ∧ YtidpfjdlchffcaaDoor.Bld w' g (l ++ s.data.toList) ∧ Below g w w' := by
  refine (Any.Builder_WriteString Tryd.wstrL Tryd.wstrX g g (Lib.byteCells l) s w h (by rw [Lib.byteCells_length]; exact hlen) hg).mono ?_
  rintro e w' ⟨he, h1, h2⟩
  refine ⟨he, ?_, h2⟩
  rw [Lib.strCells_eq, ← Lib.byteCells_append] at h1
  exact .inr h1

theorem Tryd.bldString (g : Nat) (l : List UInt8) (w : World) (h : YtidpfjdlchffcaaDoor.Bld w g l) (hg : g ≤ w.heap.size) :
    Calls Tryd.prog 30 #[.pointer (some ⟨g, 0, none⟩)] w fun e w' => e = .returned (.string ⟨l.toArray⟩) ∧ Below g w w' :=
  Any.Builder_String_any Tryd.repL Tryd.repX g g l w h hg

end Go.Proofs
