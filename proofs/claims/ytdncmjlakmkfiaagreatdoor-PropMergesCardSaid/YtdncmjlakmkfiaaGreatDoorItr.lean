/-
  THE SHELF's CONTRACTS OF maps.Keys AND slices.Sorted AT THIS PROGRAM: the tables of numbers, printed in plain words (numbers of this seat).
-/
import Derived.Shelf.SlIter.Nil
import Derived.Shelf.SortM.Plain
import Derived.Shelf.SortM.SortNone
import Derived.Test.YtdncmjlakmkfiaaGreatDoorRows
set_option linter.all false
namespace Go.Proofs
open Go.RowKit Go.Maps Go.Sort Go.Shelf

def Tryz.keys37_ren : Go.Shelf.Ren := ⟨fun | 7 => 37 | 10 => 76 | n => n, fun | 23 => 100 | 26 => 9 | 3 => 4 | 28 => 105 | 0 => 0 | 27 => 104 | 33 => 29 | 4 => 4 | n => n, fun | n => n⟩

theorem Tryz.keys37 : Go.Proofs.SlLaysZ.n7 Tryz.prog Tryz.keys37_ren := {
  mixed := by kernel_rfl
  f7 := ⟨Tryz.f37.name, by decide, Tryz.func37.trans (congrArg some (by kernel_rfl))⟩
  f10 := ⟨Tryz.f76.name, by decide, Tryz.func76.trans (congrArg some (by kernel_rfl))⟩
  t0 := Tryz.underlying0
  a0 := Tryz.isAgg0
  z0 := Tryz.sizeOf0
  v0 := Tryz.zeroValue0
  t4 := Tryz.underlying4
  a4 := Tryz.isAgg4
  z4 := Tryz.sizeOf4
  v4 := Tryz.zeroValue4
  t23 := Tryz.underlying100
  a23 := Tryz.isAgg100
  z23 := Tryz.sizeOf100
  v23 := Tryz.zeroValue100
  t26 := Tryz.underlying9
  a26 := Tryz.isAgg9
  z26 := Tryz.sizeOf9
  v26 := Tryz.zeroValue9
  t27 := Tryz.underlying104
  a27 := Tryz.isAgg104
  z27 := Tryz.sizeOf104
  v27 := Tryz.zeroValue104
  t28 := Tryz.underlying105
  a28 := Tryz.isAgg105
  z28 := Tryz.sizeOf105
  v28 := Tryz.zeroValue105
  t33 := Tryz.underlying29
  a33 := Tryz.isAgg29
  z33 := Tryz.sizeOf29
  v33 := Tryz.zeroValue29 }

def Tryz.sorted36_ren : Go.Shelf.Ren := ⟨fun | 6 => 36 | 8 => 75 | 9 => 43 | 11 => 123 | 13 => 83 | 12 => 82 | 23 => 138 | 24 => 139 | 14 => 129 | 15 => 130 | 16 => 131 | 17 => 132 | 18 => 133 | 19 => 134 | 20 => 135 | 21 => 136 | 22 => 137 | 25 => 172 | 26 => 173 | 27 => 174 | 28 => 175 | 29 => 176 | 30 => 177 | 31 => 208 | n => n, fun | 26 => 9 | 28 => 105 | 24 => 31 | 0 => 0 | 3 => 3 | 37 => 147 | 48 => 185 | 50 => 187 | 4 => 4 | 40 => 179 | 39 => 178 | 45 => 127 | 5 => 5 | 9 => 9 | 51 => 213 | 55 => 217 | 57 => 238 | 58 => 239 | 33 => 29 | n => n, fun | n => n⟩

theorem Tryz.sorted36 : Go.Proofs.SlLaysZ.n6 Tryz.prog Tryz.sorted36_ren := {
  mixed := by kernel_rfl
  f6 := ⟨Tryz.f36.name, by decide, Tryz.func36.trans (congrArg some (by kernel_rfl))⟩
  f8 := ⟨Tryz.f75.name, by decide, Tryz.func75.trans (congrArg some (by kernel_rfl))⟩
  f11 := ⟨Tryz.f123.name, by decide, Tryz.func123.trans (congrArg some (by kernel_rfl))⟩
  t0 := Tryz.underlying0
  a0 := Tryz.isAgg0
  z0 := Tryz.sizeOf0
  v0 := Tryz.zeroValue0
  t24 := Tryz.underlying31
  a24 := Tryz.isAgg31
  z24 := Tryz.sizeOf31
  v24 := Tryz.zeroValue31
  t26 := Tryz.underlying9
  a26 := Tryz.isAgg9
  z26 := Tryz.sizeOf9
  v26 := Tryz.zeroValue9
  t28 := Tryz.underlying105
  a28 := Tryz.isAgg105
  z28 := Tryz.sizeOf105
  v28 := Tryz.zeroValue105
  i26 := by kernel_rfl }

def Tryz.sort43_ren : Go.Shelf.Ren := ⟨fun | 6 => 43 | 8 => 83 | 9 => 82 | 19 => 138 | 20 => 139 | 21 => 129 | 22 => 130 | 23 => 131 | 24 => 132 | 25 => 133 | 26 => 134 | 27 => 135 | 28 => 136 | 29 => 137 | 36 => 172 | 31 => 173 | 32 => 174 | 37 => 175 | 38 => 176 | 39 => 177 | 41 => 208 | n => n, fun | 27 => 31 | 29 => 9 | 3 => 3 | 32 => 147 | 26 => 31 | 0 => 0 | 44 => 185 | 46 => 187 | 4 => 4 | 36 => 179 | 35 => 178 | 41 => 127 | 5 => 5 | 9 => 9 | 53 => 213 | 57 => 217 | 63 => 238 | 64 => 239 | n => n, fun | n => n⟩

theorem Tryz.sort43 : Go.Proofs.SlLaysM.n6 Tryz.prog Tryz.sort43_ren := {
  mixed := by kernel_rfl
  f6 := ⟨Tryz.f43.name, by decide, Tryz.func43.trans (congrArg some (by kernel_rfl))⟩
  f8 := Tryz.func83.trans (congrArg some (by kernel_rfl))
  f9 := ⟨Tryz.f82.name, by decide, Tryz.func82.trans (congrArg some (by kernel_rfl))⟩
  f19 := Tryz.func138.trans (congrArg some (by kernel_rfl))
  f20 := Tryz.func139.trans (congrArg some (by kernel_rfl))
  f21 := ⟨Tryz.f129.name, by decide, Tryz.func129.trans (congrArg some (by kernel_rfl))⟩
  f22 := ⟨Tryz.f130.name, by decide, Tryz.func130.trans (congrArg some (by kernel_rfl))⟩
  f23 := ⟨Tryz.f131.name, by decide, Tryz.func131.trans (congrArg some (by kernel_rfl))⟩
  f24 := ⟨Tryz.f132.name, by decide, Tryz.func132.trans (congrArg some (by kernel_rfl))⟩
  f25 := ⟨Tryz.f133.name, by decide, Tryz.func133.trans (congrArg some (by kernel_rfl))⟩
  f26 := ⟨Tryz.f134.name, by decide, Tryz.func134.trans (congrArg some (by kernel_rfl))⟩
  f27 := ⟨Tryz.f135.name, by decide, Tryz.func135.trans (congrArg some (by kernel_rfl))⟩
  f28 := ⟨Tryz.f136.name, by decide, Tryz.func136.trans (congrArg some (by kernel_rfl))⟩
  f29 := ⟨Tryz.f137.name, by decide, Tryz.func137.trans (congrArg some (by kernel_rfl))⟩
  f31 := Tryz.func173.trans (congrArg some (by kernel_rfl))
  f32 := Tryz.func174.trans (congrArg some (by kernel_rfl))
  f36 := ⟨Tryz.f172.name, by decide, Tryz.func172.trans (congrArg some (by kernel_rfl))⟩
  f37 := ⟨Tryz.f175.name, by decide, Tryz.func175.trans (congrArg some (by kernel_rfl))⟩
  f38 := ⟨Tryz.f176.name, by decide, Tryz.func176.trans (congrArg some (by kernel_rfl))⟩
  f39 := ⟨Tryz.f177.name, by decide, Tryz.func177.trans (congrArg some (by kernel_rfl))⟩
  f41 := ⟨Tryz.f208.name, by decide, Tryz.func208.trans (congrArg some (by kernel_rfl))⟩
  t0 := Tryz.underlying0
  a0 := Tryz.isAgg0
  z0 := Tryz.sizeOf0
  v0 := Tryz.zeroValue0
  t3 := Tryz.underlying3
  a3 := Tryz.isAgg3
  z3 := Tryz.sizeOf3
  v3 := Tryz.zeroValue3
  t4 := Tryz.underlying4
  a4 := Tryz.isAgg4
  z4 := Tryz.sizeOf4
  v4 := Tryz.zeroValue4
  t5 := Tryz.underlying5
  a5 := Tryz.isAgg5
  z5 := Tryz.sizeOf5
  v5 := Tryz.zeroValue5
  t9 := Tryz.underlying9
  a9 := Tryz.isAgg9
  z9 := Tryz.sizeOf9
  v9 := Tryz.zeroValue9
  t26 := Tryz.underlying31
  a26 := Tryz.isAgg31
  z26 := Tryz.sizeOf31
  v26 := Tryz.zeroValue31
  t27 := Tryz.underlying31
  a27 := Tryz.isAgg31
  z27 := Tryz.sizeOf31
  v27 := Tryz.zeroValue31
  t29 := Tryz.underlying9
  a29 := Tryz.isAgg9
  z29 := Tryz.sizeOf9
  v29 := Tryz.zeroValue9
  t32 := Tryz.underlying147
  a32 := Tryz.isAgg147
  z32 := Tryz.sizeOf147
  v32 := Tryz.zeroValue147
  t35 := Tryz.underlying178
  a35 := Tryz.isAgg178
  z35 := Tryz.sizeOf178
  v35 := Tryz.zeroValue178
  t36 := Tryz.underlying179
  a36 := Tryz.isAgg179
  z36 := Tryz.sizeOf179
  v36 := Tryz.zeroValue179
  t41 := Tryz.underlying127
  a41 := Tryz.isAgg127
  z41 := Tryz.sizeOf127
  v41 := Tryz.zeroValue127
  t44 := Tryz.underlying185
  a44 := Tryz.isAgg185
  z44 := Tryz.sizeOf185
  v44 := Tryz.zeroValue185
  t46 := Tryz.underlying187
  a46 := Tryz.isAgg187
  z46 := Tryz.sizeOf187
  v46 := Tryz.zeroValue187
  t53 := Tryz.underlying213
  a53 := Tryz.isAgg213
  z53 := Tryz.sizeOf213
  v53 := Tryz.zeroValue213
  t57 := Tryz.underlying217
  a57 := Tryz.isAgg217
  z57 := Tryz.sizeOf217
  v57 := Tryz.zeroValue217
  t63 := Tryz.underlying238
  a63 := Tryz.isAgg238
  z63 := Tryz.sizeOf238
  v63 := Tryz.zeroValue238
  t64 := Tryz.underlying239
  a64 := Tryz.isAgg239
  z64 := Tryz.sizeOf239
  v64 := Tryz.zeroValue239 }



/-- slices.Sort's two contracts at this dump, at the fence that asks nothing. -/
theorem Tryz.sorts36 (m : Nat) : AnyZ.SortsIn Tryz.prog Tryz.sorted36_ren Fence.wide m :=
  ⟨fun blk off cap ss W hH hblk hsz => callsIn_wide.2 (AnyM.slices_Sort_string Tryz.sort43 blk off cap ss W hH hblk hsz),
   fun p cap W => callsIn_wide.2 (AnyM.slices_Sort_string_none Tryz.sort43 p cap W)⟩

/-- **maps.Keys[map[string]bool,string,bool], at whatever map, the nil one too:** a function value over ONE NEW BLOCK, which holds the map. -/
theorem Tryz.maps_Keys_37 (mb : Option Nat) (W : World) : CallsIn Fence.wide 5 Tryz.prog 37 #[.map mb] W fun e w' => e = .returned (.func (.func 76) #[] #[.pointer (some ⟨W.heap.size, 0, none⟩)]) ∧ w' = W.alloc (.cells #[.map mb] 100) :=
  AnyZ.keys_in Tryz.keys37 Fence.wide 5 trivial rfl mb W

set_option maxHeartbeats 1000000 in
/-- **slices.Sorted[string] AT WHAT maps.Keys[map[string]bool,string,bool] HANDED BACK FOR A MAP THAT IS NOT nil** ('w': the world AHEAD of maps.Keys' call): A NEW SLICE THAT HOLDS THE MAP's KEYS, SORTED; nil just where it has none; nothing that lay before has turned. -/
theorem Tryz.slices_Sorted_keys_36_37 {H : Type} (b nn : Nat) (D0 : DataW H) (R : Value → Option (DataW H × List MemPlace)) (w : World) (hown : w.ownsMap Tryz.prog 9 R b nn D0) (hmax : Maps.size D0 ≤ maxLen) (hbytes : Maps.size D0 * 16 ≤ 140737488355328) :
    CallsIn Fence.wide 5 Tryz.prog 36 #[.func (.func 76) #[] #[.pointer (some ⟨w.heap.size, 0, none⟩)]] (w.alloc (.cells #[.map (some b)] 100)) fun e w' => ∃ (v : Value) (ss : List (List UInt8)), e = .returned v ∧ ss.Perm (strKeys D0) ∧
      w'.ownsRow (w.alloc (.cells #[.map (some b)] 100)).heap.size 9 1 v ss.length ((ss.mergeSort (fun x y => decide (x ≤ y))).map encStr) ∧ (v = .slice none 0 0 ↔ ss = []) ∧ Below (w.alloc (.cells #[.map (some b)] 100)).heap.size (w.alloc (.cells #[.map (some b)] 100)) w' := by
  have hbl := hown.lt
  have hseq : SeqGives Fence.wide 2 Tryz.prog 76 #[.pointer (some ⟨w.heap.size, 0, none⟩)] encStr (fun ss => ss.Perm (strKeys D0)) (Maps.size D0) (w.alloc (.cells #[.map (some b)] 100)) :=
    AnyZ.keys_gives (ρ := Tryz.keys37_ren) { Tryz.keys37 with } Fence.wide _ trivial rfl (by omega) w.heap.size b nn D0 _ (by simp) (by simp) (by
      obtain ⟨es, clock, hb, Ft, hs, hD⟩ := hown
      exact ⟨es, clock, (Below.heap_alloc _ _ b hbl).trans hb, Ft, hs, hD⟩)
  exact AnyZ.sorted_in Tryz.sorted36 Fence.wide 5 trivial trivial trivial trivial rfl (by omega) (Tryz.sorts36 _) (enters_of Tryz.func43 (by kernel_rfl) rfl) 76 #[.pointer (some ⟨w.heap.size, 0, none⟩)] trivial (enters_of Tryz.func76 (by kernel_rfl) rfl) _ _ hmax hbytes _ hseq

set_option maxHeartbeats 1000000 in
/-- **.. AND FOR THE nil MAP: nil.** -/
theorem Tryz.slices_Sorted_keys_nil_36_37 (w : World) :
    CallsIn Fence.wide 5 Tryz.prog 36 #[.func (.func 76) #[] #[.pointer (some ⟨w.heap.size, 0, none⟩)]] (w.alloc (.cells #[.map none] 100)) fun e w' => ∃ (v : Value) (ss : List (List UInt8)), e = .returned v ∧ ss = [] ∧
      w'.ownsRow (w.alloc (.cells #[.map none] 100)).heap.size 9 1 v ss.length ((ss.mergeSort (fun x y => decide (x ≤ y))).map encStr) ∧ (v = .slice none 0 0 ↔ ss = []) ∧ Below (w.alloc (.cells #[.map none] 100)).heap.size (w.alloc (.cells #[.map none] 100)) w' := by
  have hseq : SeqGives Fence.wide 2 Tryz.prog 76 #[.pointer (some ⟨w.heap.size, 0, none⟩)] encStr (fun ss : List (List UInt8) => ss = []) 0 (w.alloc (.cells #[.map none] 100)) :=
    AnyZ.keys_gives_nil (ρ := Tryz.keys37_ren) { Tryz.keys37 with } Fence.wide _ trivial rfl w.heap.size _ (by simp) (by simp)
  exact AnyZ.sorted_in Tryz.sorted36 Fence.wide 5 trivial trivial trivial trivial rfl (by omega) (Tryz.sorts36 _) (enters_of Tryz.func43 (by kernel_rfl) rfl) 76 #[.pointer (some ⟨w.heap.size, 0, none⟩)] trivial (enters_of Tryz.func76 (by kernel_rfl) rfl) _ 0 (Nat.zero_le _) (by omega) _ hseq



end Go.Proofs
