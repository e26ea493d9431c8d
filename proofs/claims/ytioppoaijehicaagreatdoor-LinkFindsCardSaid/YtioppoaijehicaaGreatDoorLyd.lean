/-
  THE SHELF's CONTRACTS OF LIBRARY FUNCTIONS AT THIS PROGRAM (split, pref, cut, atoi, trimany): the tables of numbers, printed in plain words (numbers of this seat).
-/
import Derived.Shelf.Strings.SplitShaped
import Derived.Shelf.Strings.Prefix
import Derived.Shelf.Strings.Cut
import Derived.Shelf.LaysM
import Derived.Shelf.Strconv.Atoi
import Derived.Lib.AtoiErrMem
import Derived.Test.YtioppoaijehicaaGreatDoorRows
import Derived.Test.YtioppoaijehicaaGreatDoorInts
import Derived.Test.YtioppoaijehicaaGreatDoorIxl
import Derived.Below
set_option linter.all false
namespace Go.Proofs
open Go.Shelf Go.RowKit

def Tryz.splitL_ren : Go.Shelf.Ren := ⟨fun | 146 => 102 | 221 => 147 | 268 => 190 | 138 => 191 | 143 => 192 | 195 => 220 | 197 => 210 | 218 => 221 | 219 => 222 | 260 => 236 | 217 => 197 | 225 => 231 | 224 => 230 | 267 => 242 | 266 => 228 | 314 => 254 | n => n, fun | 9 => 9 | 31 => 109 | 3 => 3 | 4 => 4 | 0 => 0 | 105 => 222 | 21 => 21 | 5 => 5 | 46 => 127 | 119 => 243 | 139 => 246 | 138 => 245 | 146 => 195 | 51 => 152 | n => n, fun | 1 => 1 | 3 => 4 | 4 => 5 | n => n⟩

theorem Tryz.splitL : Go.Proofs.LaysM.n146 Tryz.prog Tryz.splitL_ren := {
  mixed := by kernel_rfl
  f138 := Tryz.func191.trans (congrArg some (by kernel_rfl))
  f143 := Tryz.func192.trans (congrArg some (by kernel_rfl))
  f146 := Tryz.func102.trans (congrArg some (by kernel_rfl))
  f195 := Tryz.func220.trans (congrArg some (by kernel_rfl))
  f197 := Tryz.func210.trans (congrArg some (by kernel_rfl))
  f217 := Tryz.func197.trans (congrArg some (by kernel_rfl))
  f218 := Tryz.func221.trans (congrArg some (by kernel_rfl))
  f219 := Tryz.func222.trans (congrArg some (by kernel_rfl))
  f221 := Tryz.func147.trans (congrArg some (by kernel_rfl))
  f224 := Tryz.func230.trans (congrArg some (by kernel_rfl))
  f225 := Tryz.func231.trans (congrArg some (by kernel_rfl))
  f260 := Tryz.func236.trans (congrArg some (by kernel_rfl))
  f266 := Tryz.func228.trans (congrArg some (by kernel_rfl))
  f267 := Tryz.func242.trans (congrArg some (by kernel_rfl))
  f268 := Tryz.func190.trans (congrArg some (by kernel_rfl))
  f314 := Tryz.func254.trans (congrArg some (by kernel_rfl))
  t0 := Tryz.underlying0
  a0 := Tryz.isAgg0
  z0 := Tryz.sizeOf0
  v0 := Tryz.zeroValue0
  t3 := Tryz.underlying3
  a3 := Tryz.isAgg3
  z3 := Tryz.sizeOf3
  v3 := Tryz.zeroValue3
  t4 := Tryz.underlying4
  a4 := Tryz.isAgg4
  z4 := Tryz.sizeOf4
  v4 := Tryz.zeroValue4
  t5 := Tryz.underlying5
  a5 := Tryz.isAgg5
  z5 := Tryz.sizeOf5
  v5 := Tryz.zeroValue5
  t9 := Tryz.underlying9
  a9 := Tryz.isAgg9
  z9 := Tryz.sizeOf9
  v9 := Tryz.zeroValue9
  t21 := Tryz.underlying21
  a21 := Tryz.isAgg21
  z21 := Tryz.sizeOf21
  v21 := Tryz.zeroValue21
  t31 := Tryz.underlying109
  a31 := Tryz.isAgg109
  z31 := Tryz.sizeOf109
  v31 := Tryz.zeroValue109
  t46 := Tryz.underlying127
  a46 := Tryz.isAgg127
  z46 := Tryz.sizeOf127
  v46 := Tryz.zeroValue127
  t51 := Tryz.underlying152
  a51 := Tryz.isAgg152
  z51 := Tryz.sizeOf152
  v51 := Tryz.zeroValue152
  t105 := Tryz.underlying222
  a105 := Tryz.isAgg222
  z105 := Tryz.sizeOf222
  v105 := Tryz.zeroValue222
  t119 := Tryz.underlying243
  a119 := Tryz.isAgg243
  z119 := Tryz.sizeOf243
  t138 := Tryz.underlying245
  a138 := Tryz.isAgg245
  z138 := Tryz.sizeOf245
  v138 := Tryz.zeroValue245
  t139 := Tryz.underlying246
  a139 := Tryz.isAgg246
  z139 := Tryz.sizeOf246
  v139 := Tryz.zeroValue246
  t146 := Tryz.underlying195
  a146 := Tryz.isAgg195
  z146 := Tryz.sizeOf195
  v146 := Tryz.zeroValue195
  g1 := by kernel_rfl
  g3 := by kernel_rfl
  g4 := by kernel_rfl
  i0 := by kernel_rfl
  i3 := by kernel_rfl
  i4 := by kernel_rfl
  i5 := by kernel_rfl
  i9 := by kernel_rfl
  i21 := by kernel_rfl
  i31 := by kernel_rfl
  i46 := by kernel_rfl
  i51 := by kernel_rfl
  i105 := by kernel_rfl
  i138 := by kernel_rfl
  i139 := by kernel_rfl
  i146 := by kernel_rfl
  m1 := by kernel_rfl
  s1_3 := fun w h => Go.Proofs.cell_of_shapedOpen_int (zero := #[.int .i64 0]) (t := 3) h (of_decide_eq_true (by kernel_rfl)) (by kernel_rfl) rfl (by kernel_rfl) (by kernel_rfl) Tryz.underlying3
  m3 := by kernel_rfl
  m4 := by kernel_rfl }

def Tryz.prefL_ren : Go.Shelf.Ren := ⟨fun | 99 => 133 | 206 => 176 | n => n, fun | 9 => 9 | 4 => 4 | 3 => 3 | n => n, fun | n => n⟩

theorem Tryz.prefL : Go.Proofs.Lays.n99 Tryz.prog Tryz.prefL_ren := {
  mixed := by kernel_rfl
  f99 := Tryz.func133.trans (congrArg some (by kernel_rfl))
  f206 := Tryz.func176.trans (congrArg some (by kernel_rfl))
  t3 := Tryz.underlying3
  a3 := Tryz.isAgg3
  z3 := Tryz.sizeOf3
  v3 := Tryz.zeroValue3
  t4 := Tryz.underlying4
  a4 := Tryz.isAgg4
  z4 := Tryz.sizeOf4
  v4 := Tryz.zeroValue4
  t9 := Tryz.underlying9
  a9 := Tryz.isAgg9
  z9 := Tryz.sizeOf9
  v9 := Tryz.zeroValue9 }

def Tryz.cutL_ren : Go.Shelf.Ren := ⟨fun | 145 => 161 | 220 => 201 | 219 => 222 | 217 => 197 | 225 => 231 | 224 => 230 | 267 => 242 | 266 => 228 | 314 => 254 | n => n, fun | 9 => 9 | 4 => 4 | 59 => 186 | 3 => 3 | 5 => 5 | 46 => 127 | 146 => 195 | 51 => 152 | n => n, fun | 1 => 1 | n => n⟩

theorem Tryz.cutL : Go.Proofs.LaysM.n145 Tryz.prog Tryz.cutL_ren := {
  mixed := by kernel_rfl
  f145 := Tryz.func161.trans (congrArg some (by kernel_rfl))
  f217 := Tryz.func197.trans (congrArg some (by kernel_rfl))
  f219 := Tryz.func222.trans (congrArg some (by kernel_rfl))
  f220 := Tryz.func201.trans (congrArg some (by kernel_rfl))
  f224 := Tryz.func230.trans (congrArg some (by kernel_rfl))
  f225 := Tryz.func231.trans (congrArg some (by kernel_rfl))
  f266 := Tryz.func228.trans (congrArg some (by kernel_rfl))
  f267 := Tryz.func242.trans (congrArg some (by kernel_rfl))
  f314 := Tryz.func254.trans (congrArg some (by kernel_rfl))
  t3 := Tryz.underlying3
  a3 := Tryz.isAgg3
  z3 := Tryz.sizeOf3
  v3 := Tryz.zeroValue3
  t4 := Tryz.underlying4
  a4 := Tryz.isAgg4
  z4 := Tryz.sizeOf4
  v4 := Tryz.zeroValue4
  t5 := Tryz.underlying5
  a5 := Tryz.isAgg5
  z5 := Tryz.sizeOf5
  v5 := Tryz.zeroValue5
  t9 := Tryz.underlying9
  a9 := Tryz.isAgg9
  z9 := Tryz.sizeOf9
  v9 := Tryz.zeroValue9
  t46 := Tryz.underlying127
  a46 := Tryz.isAgg127
  z46 := Tryz.sizeOf127
  v46 := Tryz.zeroValue127
  t51 := Tryz.underlying152
  a51 := Tryz.isAgg152
  z51 := Tryz.sizeOf152
  v51 := Tryz.zeroValue152
  t59 := Tryz.underlying186
  a59 := Tryz.isAgg186
  z59 := Tryz.sizeOf186
  v59 := Tryz.zeroValue186
  t146 := Tryz.underlying195
  a146 := Tryz.isAgg195
  z146 := Tryz.sizeOf195
  v146 := Tryz.zeroValue195
  g1 := by kernel_rfl
  i3 := by kernel_rfl
  i4 := by kernel_rfl
  i5 := by kernel_rfl
  i9 := by kernel_rfl
  i46 := by kernel_rfl
  i51 := by kernel_rfl
  i59 := by kernel_rfl
  i146 := by kernel_rfl
  m1 := by kernel_rfl
  s1_3 := fun w h => Go.Proofs.cell_of_shapedOpen_int (zero := #[.int .i64 0]) (t := 3) h (of_decide_eq_true (by kernel_rfl)) (by kernel_rfl) rfl (by kernel_rfl) (by kernel_rfl) Tryz.underlying3 }

def Tryz.atoiL_ren : Go.Shelf.Ren := ⟨fun | 172 => 142 | 244 => 186 | 245 => 187 | 247 => 213 | 279 => 214 | 280 => 215 | 281 => 216 | 282 => 217 | 287 => 238 | 316 => 239 | 171 => 91 | 205 => 240 | 321 => 251 | 322 => 252 | 243 => 131 | 246 => 173 | 283 => 204 | 284 => 205 | 285 => 206 | 286 => 207 | 129 => 128 | 317 => 232 | 318 => 233 | 319 => 234 | 320 => 235 | 337 => 249 | 338 => 250 | n => n, fun | 9 => 9 | 3 => 3 | 75 => 166 | 76 => 167 | 4 => 4 | 5 => 5 | 167 => 225 | 37 => 104 | 0 => 0 | 85 => 226 | 2 => 2 | 168 => 228 | 53 => 154 | 175 => 237 | 46 => 127 | 210 => 240 | 127 => 199 | 145 => 250 | 143 => 248 | 21 => 21 | 171 => 215 | 173 => 217 | 212 => 235 | 51 => 152 | 20 => 20 | 213 => 236 | 232 => 253 | 233 => 254 | 80 => 170 | n => n, fun | 15 => 2 | 16 => 3 | 17 => 0 | 18 => 6 | 19 => 7 | n => n⟩

theorem Tryz.atoiL : Go.Proofs.Lays.n172 Tryz.prog Tryz.atoiL_ren := {
  mixed := by kernel_rfl
  f129 := Tryz.func128.trans (congrArg some (by kernel_rfl))
  f171 := Tryz.func91.trans (congrArg some (by kernel_rfl))
  f172 := Tryz.func142.trans (congrArg some (by kernel_rfl))
  f205 := Tryz.func240.trans (congrArg some (by kernel_rfl))
  f243 := Tryz.func131.trans (congrArg some (by kernel_rfl))
  f244 := Tryz.func186.trans (congrArg some (by kernel_rfl))
  f245 := Tryz.func187.trans (congrArg some (by kernel_rfl))
  f246 := Tryz.func173.trans (congrArg some (by kernel_rfl))
  f247 := Tryz.func213.trans (congrArg some (by kernel_rfl))
  f279 := Tryz.func214.trans (congrArg some (by kernel_rfl))
  f280 := Tryz.func215.trans (congrArg some (by kernel_rfl))
  f281 := Tryz.func216.trans (congrArg some (by kernel_rfl))
  f282 := Tryz.func217.trans (congrArg some (by kernel_rfl))
  f283 := Tryz.func204.trans (congrArg some (by kernel_rfl))
  f284 := Tryz.func205.trans (congrArg some (by kernel_rfl))
  f285 := Tryz.func206.trans (congrArg some (by kernel_rfl))
  f286 := Tryz.func207.trans (congrArg some (by kernel_rfl))
  f287 := Tryz.func238.trans (congrArg some (by kernel_rfl))
  f316 := Tryz.func239.trans (congrArg some (by kernel_rfl))
  f317 := Tryz.func232.trans (congrArg some (by kernel_rfl))
  f318 := Tryz.func233.trans (congrArg some (by kernel_rfl))
  f319 := Tryz.func234.trans (congrArg some (by kernel_rfl))
  f320 := Tryz.func235.trans (congrArg some (by kernel_rfl))
  f321 := Tryz.func251.trans (congrArg some (by kernel_rfl))
  f322 := Tryz.func252.trans (congrArg some (by kernel_rfl))
  f337 := Tryz.func249.trans (congrArg some (by kernel_rfl))
  f338 := Tryz.func250.trans (congrArg some (by kernel_rfl))
  t0 := Tryz.underlying0
  a0 := Tryz.isAgg0
  z0 := Tryz.sizeOf0
  v0 := Tryz.zeroValue0
  t2 := Tryz.underlying2
  a2 := Tryz.isAgg2
  z2 := Tryz.sizeOf2
  v2 := Tryz.zeroValue2
  t3 := Tryz.underlying3
  a3 := Tryz.isAgg3
  z3 := Tryz.sizeOf3
  v3 := Tryz.zeroValue3
  t4 := Tryz.underlying4
  a4 := Tryz.isAgg4
  z4 := Tryz.sizeOf4
  v4 := Tryz.zeroValue4
  t5 := Tryz.underlying5
  a5 := Tryz.isAgg5
  z5 := Tryz.sizeOf5
  v5 := Tryz.zeroValue5
  t9 := Tryz.underlying9
  a9 := Tryz.isAgg9
  z9 := Tryz.sizeOf9
  v9 := Tryz.zeroValue9
  t20 := Tryz.underlying20
  a20 := Tryz.isAgg20
  z20 := Tryz.sizeOf20
  v20 := Tryz.zeroValue20
  t21 := Tryz.underlying21
  a21 := Tryz.isAgg21
  z21 := Tryz.sizeOf21
  v21 := Tryz.zeroValue21
  t37 := Tryz.underlying104
  a37 := Tryz.isAgg104
  z37 := Tryz.sizeOf104
  v37 := Tryz.zeroValue104
  t46 := Tryz.underlying127
  a46 := Tryz.isAgg127
  z46 := Tryz.sizeOf127
  v46 := Tryz.zeroValue127
  t51 := Tryz.underlying152
  a51 := Tryz.isAgg152
  z51 := Tryz.sizeOf152
  v51 := Tryz.zeroValue152
  t53 := Tryz.underlying154
  a53 := Tryz.isAgg154
  z53 := Tryz.sizeOf154
  v53 := Tryz.zeroValue154
  t75 := Tryz.underlying166
  a75 := Tryz.isAgg166
  z75 := Tryz.sizeOf166
  v75 := Tryz.zeroValue166
  t76 := Tryz.underlying167
  a76 := Tryz.isAgg167
  z76 := Tryz.sizeOf167
  v76 := Tryz.zeroValue167
  t85 := Tryz.underlying226
  a85 := Tryz.isAgg226
  z85 := Tryz.sizeOf226
  v85 := Tryz.zeroValue226
  t127 := Tryz.underlying199
  a127 := Tryz.isAgg199
  z127 := Tryz.sizeOf199
  v127 := Tryz.zeroValue199
  t143 := Tryz.underlying248
  a143 := Tryz.isAgg248
  z143 := Tryz.sizeOf248
  v143 := Tryz.zeroValue248
  t145 := Tryz.underlying250
  a145 := Tryz.isAgg250
  z145 := Tryz.sizeOf250
  v145 := Tryz.zeroValue250
  t167 := Tryz.underlying225
  a167 := Tryz.isAgg225
  z167 := Tryz.sizeOf225
  v167 := Tryz.zeroValue225
  t168 := Tryz.underlying228
  a168 := Tryz.isAgg228
  z168 := Tryz.sizeOf228
  v168 := Tryz.zeroValue228
  t171 := Tryz.underlying215
  a171 := Tryz.isAgg215
  z171 := Tryz.sizeOf215
  v171 := Tryz.zeroValue215
  t173 := Tryz.underlying217
  a173 := Tryz.isAgg217
  z173 := Tryz.sizeOf217
  v173 := Tryz.zeroValue217
  t175 := Tryz.underlying237
  a175 := Tryz.isAgg237
  z175 := Tryz.sizeOf237
  v175 := Tryz.zeroValue237
  t210 := Tryz.underlying240
  a210 := Tryz.isAgg240
  z210 := Tryz.sizeOf240
  v210 := Tryz.zeroValue240
  t212 := Tryz.underlying235
  a212 := Tryz.isAgg235
  z212 := Tryz.sizeOf235
  v212 := Tryz.zeroValue235
  t213 := Tryz.underlying236
  a213 := Tryz.isAgg236
  z213 := Tryz.sizeOf236
  t232 := Tryz.underlying253
  a232 := Tryz.isAgg253
  z232 := Tryz.sizeOf253
  v232 := Tryz.zeroValue253
  t233 := Tryz.underlying254
  a233 := Tryz.isAgg254
  z233 := Tryz.sizeOf254
  v233 := Tryz.zeroValue254
  g15 := by kernel_rfl
  g16 := by kernel_rfl
  g17 := by kernel_rfl
  g18 := by kernel_rfl
  g19 := by kernel_rfl }


/-- The bound of the fast search is a number, whichever. -/
def YtioppoaijehicaaGreatDoor.MaxTold (w : World) : Prop := ∃ m, w.cell? ⟨1, 0, none⟩ = some (.int .i64 m)

theorem YtioppoaijehicaaGreatDoor.maxTold_shaped {w : World} (h : w.ShapedOpen Tryz.prog) : YtioppoaijehicaaGreatDoor.MaxTold w := Tryz.splitL.s1_3 w h

theorem YtioppoaijehicaaGreatDoor.maxTold_below {w w' : World} (h : YtioppoaijehicaaGreatDoor.MaxTold w) (hb : Below w.heap.size w w') : YtioppoaijehicaaGreatDoor.MaxTold w' := by
  obtain ⟨m, hm⟩ := h
  refine ⟨m, (hb.cell ?_).trans hm⟩
  rcases Nat.lt_or_ge 1 w.heap.size with hh | hh
  · exact hh
  · simp [World.cell?, Array.getElem?_eq_none hh] at hm

theorem Tryz.split_any (s sep : ByteArray) (w : World) (h : YtioppoaijehicaaGreatDoor.MaxTold w) (hs : s.size < 4294967281) (h1 : 1 ≤ sep.size) :
    Calls Tryz.prog 102 #[.string s, .string sep] w fun e w' =>
      e = .returned (.slice (some ⟨w.heap.size, 0, none⟩) (Lib.countB s sep + 1) (Lib.countB s sep + 1)) ∧ w' = w.alloc (.cells ((Lib.splitB sep 0 (Lib.countB s sep) s).map Value.string).toArray 9) :=
  let ⟨m, hm⟩ := h
  Any.strings_Split { Tryz.splitL with } Tryz.splitL.i9 s sep m w hs hm h1

theorem Tryz.hasPrefix_any (s p : ByteArray) (w : World) :
    Calls Tryz.prog 133 #[.string s, .string p] w fun e w' => e = .returned (.bool (Lib.hasPrefix s.data.toList p.data.toList)) ∧ w' = w :=
  Any.strings_HasPrefix Tryz.prefL s p w

theorem Tryz.cut_any (s sep : ByteArray) (w : World) (h : YtioppoaijehicaaGreatDoor.MaxTold w) (hs : s.size < 4294967281) :
    Calls Tryz.prog 161 #[.string s, .string sep] w fun e w' => e = .returned (.tuple #[.string ⟨(Lib.cut s.data.toList sep.data.toList).1.toArray⟩, .string ⟨(Lib.cut s.data.toList sep.data.toList).2.1.toArray⟩, .bool (Lib.cut s.data.toList sep.data.toList).2.2]) ∧ ∃ n, w' = w.drewN n :=
  let ⟨m, hm⟩ := h
  Any.strings_Cut { Tryz.cutL with } s sep m w hs hm

theorem Tryz.atoi_any (s : ByteArray) (n : Int) (hl : s.size ≤ 18) (h : Lib.atoi s.data.toList = some n) (w : World) :
    Calls Tryz.prog 142 #[.string s] w fun e w' => e = .returned (.tuple #[.int .i64 n, .nilIface]) ∧ Below w.heap.size w w' :=
  (Any.strconv_Atoi Tryz.atoiL s n hl h w).mono fun _ w' ⟨he, t, hw⟩ => ⟨he, by subst hw; exact Lib.bytesWorld_below _ _ _⟩

theorem Tryz.trim_any (s cutset : ByteArray) (w : World) (hs : s.size ≤ 9223372036854775807) (hcs : cutset.size < 4294967281)
    (hascii : (cutset.data.toList.all fun b => decide (b.toNat < 128)) = true) :
    Calls Tryz.prog 141 #[.string s, .string cutset] w fun e w' => e = .returned (.string ⟨(Lib.trimS s.data.toList cutset.data.toList).toArray⟩) ∧ Below w.heap.size w w' :=
  Any.strings_Trim_laid Tryz.trimL (by kernel_rfl) s cutset w hs hcs (fun _ b hb => of_decide_eq_true (List.all_eq_true.1 hascii b (List.mem_of_getElem? hb)))

end Go.Proofs
