/-
  THE SHELF's CONTRACTS OF maps.Keys AND slices.Sorted AT THIS PROGRAM (keys: int): the tables of numbers, printed in plain words (numbers of this seat).
-/
import Derived.Shelf.SlIterI.Nil
import Derived.Shelf.SortM.Plain
import Derived.Shelf.SortM.SortNone
import Derived.Test.YtioppoaijehicaaGreatDoorRows
set_option linter.all false
namespace Go.Proofs
open Go.RowKit Go.Maps Go.Sort Go.Shelf

def Tryz.keys30_ren : Go.Shelf.Ren := ⟨fun | 7 => 30 | 10 => 68 | n => n, fun | 23 => 52 | 26 => 3 | 3 => 3 | 28 => 58 | 0 => 0 | 27 => 57 | 33 => 31 | 4 => 4 | n => n, fun | n => n⟩

theorem Tryz.keys30 : Go.Proofs.SlLaysZI.n7 Tryz.prog Tryz.keys30_ren := {
  mixed := by kernel_rfl
  f7 := ⟨Tryz.f30.name, by decide, Tryz.func30.trans (congrArg some (by kernel_rfl))⟩
  f10 := ⟨Tryz.f68.name, by decide, Tryz.func68.trans (congrArg some (by kernel_rfl))⟩
  t0 := Tryz.underlying0
  a0 := Tryz.isAgg0
  z0 := Tryz.sizeOf0
  v0 := Tryz.zeroValue0
  t4 := Tryz.underlying4
  a4 := Tryz.isAgg4
  z4 := Tryz.sizeOf4
  v4 := Tryz.zeroValue4
  t23 := Tryz.underlying52
  a23 := Tryz.isAgg52
  z23 := Tryz.sizeOf52
  v23 := Tryz.zeroValue52
  t26 := Tryz.underlying3
  a26 := Tryz.isAgg3
  z26 := Tryz.sizeOf3
  v26 := Tryz.zeroValue3
  t27 := Tryz.underlying57
  a27 := Tryz.isAgg57
  z27 := Tryz.sizeOf57
  v27 := Tryz.zeroValue57
  t28 := Tryz.underlying58
  a28 := Tryz.isAgg58
  z28 := Tryz.sizeOf58
  v28 := Tryz.zeroValue58
  t33 := Tryz.underlying31
  a33 := Tryz.isAgg31
  z33 := Tryz.sizeOf31
  v33 := Tryz.zeroValue31 }

def Tryz.sorted29_ren : Go.Shelf.Ren := ⟨fun | 6 => 29 | 8 => 67 | 9 => 53 | 11 => 101 | 13 => 88 | 12 => 87 | 23 => 127 | 24 => 128 | 14 => 118 | 15 => 119 | 16 => 120 | 17 => 121 | 18 => 122 | 19 => 123 | 20 => 124 | 21 => 125 | 22 => 126 | 25 => 166 | 26 => 167 | 27 => 168 | 28 => 169 | 29 => 170 | 30 => 171 | 31 => 203 | n => n, fun | 26 => 3 | 28 => 58 | 24 => 28 | 0 => 0 | 3 => 3 | 37 => 127 | 48 => 152 | 50 => 154 | 4 => 4 | 40 => 145 | 39 => 144 | 45 => 51 | 5 => 5 | 9 => 9 | 51 => 188 | 55 => 192 | 57 => 212 | 58 => 213 | 33 => 31 | n => n, fun | n => n⟩

theorem Tryz.sorted29 : Go.Proofs.SlLaysZI.n6 Tryz.prog Tryz.sorted29_ren := {
  mixed := by kernel_rfl
  f6 := ⟨Tryz.f29.name, by decide, Tryz.func29.trans (congrArg some (by kernel_rfl))⟩
  f8 := ⟨Tryz.f67.name, by decide, Tryz.func67.trans (congrArg some (by kernel_rfl))⟩
  f11 := ⟨Tryz.f101.name, by decide, Tryz.func101.trans (congrArg some (by kernel_rfl))⟩
  t0 := Tryz.underlying0
  a0 := Tryz.isAgg0
  z0 := Tryz.sizeOf0
  v0 := Tryz.zeroValue0
  t24 := Tryz.underlying28
  a24 := Tryz.isAgg28
  z24 := Tryz.sizeOf28
  v24 := Tryz.zeroValue28
  t26 := Tryz.underlying3
  a26 := Tryz.isAgg3
  z26 := Tryz.sizeOf3
  v26 := Tryz.zeroValue3
  t28 := Tryz.underlying58
  a28 := Tryz.isAgg58
  z28 := Tryz.sizeOf58
  v28 := Tryz.zeroValue58
  i26 := by kernel_rfl }

def Tryz.sort53_ren : Go.Shelf.Ren := ⟨fun | 5 => 53 | 8 => 88 | 7 => 87 | 19 => 127 | 20 => 128 | 10 => 118 | 11 => 119 | 12 => 120 | 13 => 121 | 14 => 122 | 15 => 123 | 16 => 124 | 17 => 125 | 18 => 126 | 30 => 166 | 31 => 167 | 32 => 168 | 33 => 169 | 34 => 170 | 35 => 171 | 40 => 203 | n => n, fun | 23 => 28 | 25 => 3 | 3 => 3 | 32 => 127 | 22 => 28 | 0 => 0 | 44 => 152 | 46 => 154 | 4 => 4 | 36 => 145 | 35 => 144 | 41 => 51 | 5 => 5 | 9 => 9 | 53 => 188 | 57 => 192 | 63 => 212 | 64 => 213 | n => n, fun | n => n⟩

theorem Tryz.sort53 : Go.Proofs.SlLaysM.n5 Tryz.prog Tryz.sort53_ren := {
  mixed := by kernel_rfl
  f5 := ⟨Tryz.f53.name, by decide, Tryz.func53.trans (congrArg some (by kernel_rfl))⟩
  f7 := ⟨Tryz.f87.name, by decide, Tryz.func87.trans (congrArg some (by kernel_rfl))⟩
  f8 := Tryz.func88.trans (congrArg some (by kernel_rfl))
  f10 := ⟨Tryz.f118.name, by decide, Tryz.func118.trans (congrArg some (by kernel_rfl))⟩
  f11 := ⟨Tryz.f119.name, by decide, Tryz.func119.trans (congrArg some (by kernel_rfl))⟩
  f12 := ⟨Tryz.f120.name, by decide, Tryz.func120.trans (congrArg some (by kernel_rfl))⟩
  f13 := ⟨Tryz.f121.name, by decide, Tryz.func121.trans (congrArg some (by kernel_rfl))⟩
  f14 := ⟨Tryz.f122.name, by decide, Tryz.func122.trans (congrArg some (by kernel_rfl))⟩
  f15 := ⟨Tryz.f123.name, by decide, Tryz.func123.trans (congrArg some (by kernel_rfl))⟩
  f16 := ⟨Tryz.f124.name, by decide, Tryz.func124.trans (congrArg some (by kernel_rfl))⟩
  f17 := ⟨Tryz.f125.name, by decide, Tryz.func125.trans (congrArg some (by kernel_rfl))⟩
  f18 := ⟨Tryz.f126.name, by decide, Tryz.func126.trans (congrArg some (by kernel_rfl))⟩
  f19 := Tryz.func127.trans (congrArg some (by kernel_rfl))
  f20 := Tryz.func128.trans (congrArg some (by kernel_rfl))
  f30 := ⟨Tryz.f166.name, by decide, Tryz.func166.trans (congrArg some (by kernel_rfl))⟩
  f31 := Tryz.func167.trans (congrArg some (by kernel_rfl))
  f32 := Tryz.func168.trans (congrArg some (by kernel_rfl))
  f33 := ⟨Tryz.f169.name, by decide, Tryz.func169.trans (congrArg some (by kernel_rfl))⟩
  f34 := ⟨Tryz.f170.name, by decide, Tryz.func170.trans (congrArg some (by kernel_rfl))⟩
  f35 := ⟨Tryz.f171.name, by decide, Tryz.func171.trans (congrArg some (by kernel_rfl))⟩
  f40 := ⟨Tryz.f203.name, by decide, Tryz.func203.trans (congrArg some (by kernel_rfl))⟩
  t0 := Tryz.underlying0
  a0 := Tryz.isAgg0
  z0 := Tryz.sizeOf0
  v0 := Tryz.zeroValue0
  t3 := Tryz.underlying3
  a3 := Tryz.isAgg3
  z3 := Tryz.sizeOf3
  v3 := Tryz.zeroValue3
  t4 := Tryz.underlying4
  a4 := Tryz.isAgg4
  z4 := Tryz.sizeOf4
  v4 := Tryz.zeroValue4
  t5 := Tryz.underlying5
  a5 := Tryz.isAgg5
  z5 := Tryz.sizeOf5
  v5 := Tryz.zeroValue5
  t9 := Tryz.underlying9
  a9 := Tryz.isAgg9
  z9 := Tryz.sizeOf9
  v9 := Tryz.zeroValue9
  t22 := Tryz.underlying28
  a22 := Tryz.isAgg28
  z22 := Tryz.sizeOf28
  v22 := Tryz.zeroValue28
  t23 := Tryz.underlying28
  a23 := Tryz.isAgg28
  z23 := Tryz.sizeOf28
  v23 := Tryz.zeroValue28
  t25 := Tryz.underlying3
  a25 := Tryz.isAgg3
  z25 := Tryz.sizeOf3
  v25 := Tryz.zeroValue3
  t32 := Tryz.underlying127
  a32 := Tryz.isAgg127
  z32 := Tryz.sizeOf127
  v32 := Tryz.zeroValue127
  t35 := Tryz.underlying144
  a35 := Tryz.isAgg144
  z35 := Tryz.sizeOf144
  v35 := Tryz.zeroValue144
  t36 := Tryz.underlying145
  a36 := Tryz.isAgg145
  z36 := Tryz.sizeOf145
  v36 := Tryz.zeroValue145
  t41 := Tryz.underlying51
  a41 := Tryz.isAgg51
  z41 := Tryz.sizeOf51
  v41 := Tryz.zeroValue51
  t44 := Tryz.underlying152
  a44 := Tryz.isAgg152
  z44 := Tryz.sizeOf152
  v44 := Tryz.zeroValue152
  t46 := Tryz.underlying154
  a46 := Tryz.isAgg154
  z46 := Tryz.sizeOf154
  v46 := Tryz.zeroValue154
  t53 := Tryz.underlying188
  a53 := Tryz.isAgg188
  z53 := Tryz.sizeOf188
  v53 := Tryz.zeroValue188
  t57 := Tryz.underlying192
  a57 := Tryz.isAgg192
  z57 := Tryz.sizeOf192
  v57 := Tryz.zeroValue192
  t63 := Tryz.underlying212
  a63 := Tryz.isAgg212
  z63 := Tryz.sizeOf212
  v63 := Tryz.zeroValue212
  t64 := Tryz.underlying213
  a64 := Tryz.isAgg213
  z64 := Tryz.sizeOf213
  v64 := Tryz.zeroValue213 }



/-- slices.Sort's two contracts at this dump, at the fence that asks nothing. -/
theorem Tryz.sorts29 (m : Nat) : AnyZI.SortsIn Tryz.prog Tryz.sorted29_ren Fence.wide m :=
  ⟨fun blk off cap ss W hH hblk hsz => callsIn_wide.2 (AnyM.slices_Sort_int Tryz.sort53 blk off cap ss W hH hblk hsz),
   fun p cap W => callsIn_wide.2 (AnyM.slices_Sort_int_none Tryz.sort53 p cap W)⟩

/-- **maps.Keys[map[int]int,int,int], at whatever map, the nil one too:** a function value over ONE NEW BLOCK, which holds the map. -/
theorem Tryz.maps_Keys_30 (mb : Option Nat) (W : World) : CallsIn Fence.wide 5 Tryz.prog 30 #[.map mb] W fun e w' => e = .returned (.func (.func 68) #[] #[.pointer (some ⟨W.heap.size, 0, none⟩)]) ∧ w' = W.alloc (.cells #[.map mb] 52) :=
  AnyZI.keys_in Tryz.keys30 Fence.wide 5 trivial rfl mb W

set_option maxHeartbeats 1000000 in
/-- **slices.Sorted[int] AT WHAT maps.Keys[map[int]int,int,int] HANDED BACK FOR A MAP THAT IS NOT nil** ('w': the world AHEAD of maps.Keys' call): A NEW SLICE THAT HOLDS THE MAP's KEYS, SORTED; nil just where it has none; nothing that lay before has turned. -/
theorem Tryz.slices_Sorted_keys_29_30 {H : Type} (b nn : Nat) (D0 : DataW H) (R : Value → Option (DataW H × List MemPlace)) (w : World) (hown : w.ownsMap Tryz.prog 3 R b nn D0) (hmax : Maps.size D0 ≤ maxLen) (hbytes : Maps.size D0 * 8 ≤ 140737488355328) :
    CallsIn Fence.wide 5 Tryz.prog 29 #[.func (.func 68) #[] #[.pointer (some ⟨w.heap.size, 0, none⟩)]] (w.alloc (.cells #[.map (some b)] 52)) fun e w' => ∃ (v : Value) (ss : List Int), e = .returned v ∧ ss.Perm (intKeys D0) ∧
      w'.ownsRow (w.alloc (.cells #[.map (some b)] 52)).heap.size 3 1 v ss.length ((ss.mergeSort (fun x y => decide (x ≤ y))).map encZ) ∧ (v = .slice none 0 0 ↔ ss = []) ∧ Below (w.alloc (.cells #[.map (some b)] 52)).heap.size (w.alloc (.cells #[.map (some b)] 52)) w' := by
  have hbl := hown.lt
  have hseq : SeqGives Fence.wide 2 Tryz.prog 68 #[.pointer (some ⟨w.heap.size, 0, none⟩)] encZ (fun ss => ss.Perm (intKeys D0)) (Maps.size D0) (w.alloc (.cells #[.map (some b)] 52)) :=
    AnyZI.keys_gives (ρ := Tryz.keys30_ren) { Tryz.keys30 with } Fence.wide _ trivial rfl (by omega) w.heap.size b nn D0 _ (by simp) (by simp) (by
      obtain ⟨es, clock, hb, Ft, hs, hD⟩ := hown
      exact ⟨es, clock, (Below.heap_alloc _ _ b hbl).trans hb, Ft, hs, hD⟩)
  exact AnyZI.sorted_in Tryz.sorted29 Fence.wide 5 trivial trivial trivial trivial rfl (by omega) (Tryz.sorts29 _) (enters_of Tryz.func53 (by kernel_rfl) rfl) 68 #[.pointer (some ⟨w.heap.size, 0, none⟩)] trivial (enters_of Tryz.func68 (by kernel_rfl) rfl) _ _ hmax hbytes _ hseq

set_option maxHeartbeats 1000000 in
/-- **.. AND FOR THE nil MAP: nil.** -/
theorem Tryz.slices_Sorted_keys_nil_29_30 (w : World) :
    CallsIn Fence.wide 5 Tryz.prog 29 #[.func (.func 68) #[] #[.pointer (some ⟨w.heap.size, 0, none⟩)]] (w.alloc (.cells #[.map none] 52)) fun e w' => ∃ (v : Value) (ss : List Int), e = .returned v ∧ ss = [] ∧
      w'.ownsRow (w.alloc (.cells #[.map none] 52)).heap.size 3 1 v ss.length ((ss.mergeSort (fun x y => decide (x ≤ y))).map encZ) ∧ (v = .slice none 0 0 ↔ ss = []) ∧ Below (w.alloc (.cells #[.map none] 52)).heap.size (w.alloc (.cells #[.map none] 52)) w' := by
  have hseq : SeqGives Fence.wide 2 Tryz.prog 68 #[.pointer (some ⟨w.heap.size, 0, none⟩)] encZ (fun ss : List Int => ss = []) 0 (w.alloc (.cells #[.map none] 52)) :=
    AnyZI.keys_gives_nil (ρ := Tryz.keys30_ren) { Tryz.keys30 with } Fence.wide _ trivial rfl w.heap.size _ (by simp) (by simp)
  exact AnyZI.sorted_in Tryz.sorted29 Fence.wide 5 trivial trivial trivial trivial rfl (by omega) (Tryz.sorts29 _) (enters_of Tryz.func53 (by kernel_rfl) rfl) 68 #[.pointer (some ⟨w.heap.size, 0, none⟩)] trivial (enters_of Tryz.func68 (by kernel_rfl) rfl) _ 0 (Nat.zero_le _) (by omega) _ hseq



end Go.Proofs
