/-
  Texts of the proof, one behind the other: Sh Cw ShA Plg LaN.
  No condition but those that each theorem names.
-/
import Derived.Shelf.Small.Strs
import Derived.Shelf.Small.Wraps
import Derived.Shelf.Strconv.AtoiAll
import Derived.Shelf.Strconv.ErrVarAll
import Derived.Shelf.Strconv.Itoa3
import Derived.Shelf.Strings.Cut
import Derived.Shelf.Strings.OnBuilder
import Derived.Shelf.Strings.Split
import Derived.KernelRfl
import Derived.Test.YtmlejhpeoiicpaaGreatDoorProg
import Derived.Test.YtmlejhpeoiicpaaGreatDoorGD
import Derived.Test.YtmlejhpeoiicpaaGreatDoorGC
import Derived.Test.YtmlejhpeoiicpaaGreatDoorRows
import Derived.Test.YtmlejhpeoiicpaaGreatDoorGB
import Derived.Lib.LaidU8
import Derived.LaidLaws
import Derived.MakeChecks
import Derived.WalkKit
namespace Go.Proofs
open Go.Shelf Go.RowKit Go.Lib Go.Sort
def Tryz.lays156_ren : Go.Shelf.Ren := ⟨fun | 156 => 57 | 165 => 92 | 166 => 93 | 169 => 94 | 240 => 125 | 241 => 126 | 276 => 146 | 277 => 147 | n => n, fun | 31 => 83 | 9 => 9 | 3 => 3 | 4 => 4 | 0 => 0 | 20 => 20 | 72 => 123 | 76 => 72 | 70 => 121 | 37 => 23 | 75 => 71 | 127 => 149 | 164 => 171 | 5 => 5 | 80 => 125 | n => n, fun | n => n⟩
theorem Tryz.lays156 : Go.Proofs.Lays.n156 Tryz.prog Tryz.lays156_ren := {
  mixed := by kernel_rfl
  f156 := Tryz.func57.trans (congrArg some (by kernel_rfl))
  f165 := Tryz.func92.trans (congrArg some (by kernel_rfl))
  f166 := Tryz.func93.trans (congrArg some (by kernel_rfl))
  f169 := Tryz.func94.trans (congrArg some (by kernel_rfl))
  f240 := Tryz.func125.trans (congrArg some (by kernel_rfl))
  f241 := Tryz.func126.trans (congrArg some (by kernel_rfl))
  f276 := Tryz.func146.trans (congrArg some (by kernel_rfl))
  f277 := Tryz.func147.trans (congrArg some (by kernel_rfl))
  t0 := Tryz.underlying0
  a0 := Tryz.isAgg0
  z0 := Tryz.sizeOf0
  v0 := Tryz.zeroValue0
  t3 := Tryz.underlying3
  a3 := Tryz.isAgg3
  z3 := Tryz.sizeOf3
  v3 := Tryz.zeroValue3
  t4 := Tryz.underlying4
  a4 := Tryz.isAgg4
  z4 := Tryz.sizeOf4
  v4 := Tryz.zeroValue4
  t9 := Tryz.underlying9
  a9 := Tryz.isAgg9
  z9 := Tryz.sizeOf9
  v9 := Tryz.zeroValue9
  t20 := Tryz.underlying20
  a20 := Tryz.isAgg20
  z20 := Tryz.sizeOf20
  v20 := Tryz.zeroValue20
  t31 := Tryz.underlying83
  a31 := Tryz.isAgg83
  z31 := Tryz.sizeOf83
  v31 := Tryz.zeroValue83
  t37 := Tryz.underlying23
  a37 := Tryz.isAgg23
  z37 := Tryz.sizeOf23
  v37 := Tryz.zeroValue23
  t70 := Tryz.underlying121
  a70 := Tryz.isAgg121
  z70 := Tryz.sizeOf121
  v70 := Tryz.zeroValue121
  t72 := Tryz.underlying123
  a72 := Tryz.isAgg123
  z72 := Tryz.sizeOf123
  v72 := Tryz.zeroValue123
  t75 := Tryz.underlying71
  a75 := Tryz.isAgg71
  z75 := Tryz.sizeOf71
  v75 := Tryz.zeroValue71
  t76 := Tryz.underlying72
  a76 := Tryz.isAgg72
  z76 := Tryz.sizeOf72
  v76 := Tryz.zeroValue72
  t127 := Tryz.underlying149
  a127 := Tryz.isAgg149
  z127 := Tryz.sizeOf149
  v127 := Tryz.zeroValue149
  t164 := Tryz.underlying171
  a164 := Tryz.isAgg171
  z164 := Tryz.sizeOf171
  v164 := Tryz.zeroValue171 }
theorem Tryz.Builder_Extra_156 : Builder.Extra Tryz.prog Tryz.lays156_ren := {
  sizeBuilder := by kernel_rfl
  liesBuilder := by kernel_rfl
  t5 := Tryz.underlying5
  a5 := Tryz.isAgg5
  z5 := Tryz.sizeOf5
  v5 := Tryz.zeroValue5
  infoByte := by kernel_rfl
  cellsByte := by kernel_rfl
  sizeByte := by kernel_rfl
  neB5 := by decide }
theorem Tryz.strings_Join_none (a : Option Addr) (c : Nat) (sep : ByteArray) (w : World) :
    Calls Tryz.prog 57 #[.slice a 0 c, .string sep] w fun e w' => e = .returned (.string ⟨#[]⟩) ∧ w' = w := Any.strings_Join_none Tryz.lays156 Tryz.Builder_Extra_156 a c sep w
theorem Tryz.strings_Join (bk o c : Nat) (xs : List ByteArray) (sep : ByteArray) (w : World) (hcells : ∀ (j : Nat) x, xs[j]? = some x → w.cell? ⟨bk, o + j, none⟩ = some (.string x)) (hbk : bk < w.heap.size) (hN : xs.length ≤ 140737488355328) (hcap : xs.length ≤ c) (hlen : (Lib.join (xs.map (·.data.toList)) sep.data.toList).length ≤ 140737488355328) :
    Calls Tryz.prog 57 #[.slice (some ⟨bk, o, none⟩) xs.length c, .string sep] w fun e w' => e = .returned (.string ⟨(Lib.join (xs.map (·.data.toList)) sep.data.toList).toArray⟩) ∧ Below w.heap.size w w' := Any.strings_Join Tryz.lays156 Tryz.Builder_Extra_156 bk o c xs sep w hcells hbk hN hcap hlen
def Tryz.lays137_ren : Go.Shelf.Ren := ⟨fun | 137 => 51 | 217 => 90 | 266 => 123 | n => n, fun | 9 => 9 | 5 => 5 | 3 => 3 | n => n, fun | n => n⟩
theorem Tryz.lays137 : Go.Proofs.Lays.n137 Tryz.prog Tryz.lays137_ren := {
  mixed := by kernel_rfl
  f137 := Tryz.func51.trans (congrArg some (by kernel_rfl))
  f217 := Tryz.func90.trans (congrArg some (by kernel_rfl))
  f266 := Tryz.func123.trans (congrArg some (by kernel_rfl))
  t3 := Tryz.underlying3
  a3 := Tryz.isAgg3
  z3 := Tryz.sizeOf3
  v3 := Tryz.zeroValue3
  t5 := Tryz.underlying5
  a5 := Tryz.isAgg5
  z5 := Tryz.sizeOf5
  v5 := Tryz.zeroValue5
  t9 := Tryz.underlying9
  a9 := Tryz.isAgg9
  z9 := Tryz.sizeOf9
  v9 := Tryz.zeroValue9 }
theorem Tryz.strings_IndexByte (s : ByteArray) (c : Int) (w : World) :
    Calls Tryz.prog 51 #[.string s, .int .u8 c] w fun e w' => e = .returned (.int .i64 (Lib.indexByte s.data.toList c.toNat.toUInt8)) ∧ w' = w := Any.strings_IndexByte Tryz.lays137 s c w
def Tryz.lays103_ren : Go.Shelf.Ren := ⟨fun | 103 => 52 | 210 => 91 | 206 => 124 | n => n, fun | 9 => 9 | 4 => 4 | 24 => 77 | 3 => 3 | n => n, fun | n => n⟩
theorem Tryz.lays103 : Go.Proofs.Lays.n103 Tryz.prog Tryz.lays103_ren := {
  mixed := by kernel_rfl
  f103 := Tryz.func52.trans (congrArg some (by kernel_rfl))
  f206 := Tryz.func124.trans (congrArg some (by kernel_rfl))
  f210 := Tryz.func91.trans (congrArg some (by kernel_rfl))
  t3 := Tryz.underlying3
  a3 := Tryz.isAgg3
  z3 := Tryz.sizeOf3
  v3 := Tryz.zeroValue3
  t4 := Tryz.underlying4
  a4 := Tryz.isAgg4
  z4 := Tryz.sizeOf4
  v4 := Tryz.zeroValue4
  t9 := Tryz.underlying9
  a9 := Tryz.isAgg9
  z9 := Tryz.sizeOf9
  v9 := Tryz.zeroValue9
  t24 := Tryz.underlying77
  a24 := Tryz.isAgg77
  z24 := Tryz.sizeOf77
  v24 := Tryz.zeroValue77 }
theorem Tryz.strings_CutPrefix (s p : ByteArray) (w : World) :
    Calls Tryz.prog 52 #[.string s, .string p] w fun e w' => e = .returned (.tuple #[.string ⟨(Lib.trimPrefix s.data.toList p.data.toList).toArray⟩, .bool (Lib.hasPrefix s.data.toList p.data.toList)]) ∧ w' = w := Any.strings_CutPrefix Tryz.lays103 s p w
def Tryz.laysM171_ren : Go.Shelf.Ren := ⟨fun | 171 => 50 | 243 => 89 | 246 => 122 | 283 => 142 | 284 => 143 | 285 => 144 | 286 => 145 | 129 => 159 | 317 => 158 | 318 => 160 | 319 => 161 | 320 => 162 | 337 => 169 | 338 => 170 | n => n, fun | 3 => 3 | 9 => 9 | 2 => 2 | 4 => 4 | 171 => 166 | 0 => 0 | 53 => 159 | 37 => 23 | 5 => 5 | 173 => 169 | 212 => 183 | 51 => 156 | 20 => 20 | 213 => 184 | 46 => 76 | 232 => 198 | 233 => 199 | n => n, fun | 17 => 3 | 18 => 6 | 19 => 7 | n => n⟩
theorem Tryz.laysM171 : Go.Proofs.LaysM.n171 Tryz.prog Tryz.laysM171_ren := {
  mixed := by kernel_rfl
  f129 := Tryz.func159.trans (congrArg some (by kernel_rfl))
  f171 := Tryz.func50.trans (congrArg some (by kernel_rfl))
  f243 := Tryz.func89.trans (congrArg some (by kernel_rfl))
  f246 := Tryz.func122.trans (congrArg some (by kernel_rfl))
  f283 := Tryz.func142.trans (congrArg some (by kernel_rfl))
  f284 := Tryz.func143.trans (congrArg some (by kernel_rfl))
  f285 := Tryz.func144.trans (congrArg some (by kernel_rfl))
  f286 := Tryz.func145.trans (congrArg some (by kernel_rfl))
  f317 := Tryz.func158.trans (congrArg some (by kernel_rfl))
  f318 := Tryz.func160.trans (congrArg some (by kernel_rfl))
  f319 := Tryz.func161.trans (congrArg some (by kernel_rfl))
  f320 := Tryz.func162.trans (congrArg some (by kernel_rfl))
  f337 := Tryz.func169.trans (congrArg some (by kernel_rfl))
  f338 := Tryz.func170.trans (congrArg some (by kernel_rfl))
  t0 := Tryz.underlying0
  a0 := Tryz.isAgg0
  z0 := Tryz.sizeOf0
  v0 := Tryz.zeroValue0
  t2 := Tryz.underlying2
  a2 := Tryz.isAgg2
  z2 := Tryz.sizeOf2
  v2 := Tryz.zeroValue2
  t3 := Tryz.underlying3
  a3 := Tryz.isAgg3
  z3 := Tryz.sizeOf3
  v3 := Tryz.zeroValue3
  t4 := Tryz.underlying4
  a4 := Tryz.isAgg4
  z4 := Tryz.sizeOf4
  v4 := Tryz.zeroValue4
  t5 := Tryz.underlying5
  a5 := Tryz.isAgg5
  z5 := Tryz.sizeOf5
  v5 := Tryz.zeroValue5
  t9 := Tryz.underlying9
  a9 := Tryz.isAgg9
  z9 := Tryz.sizeOf9
  v9 := Tryz.zeroValue9
  t20 := Tryz.underlying20
  a20 := Tryz.isAgg20
  z20 := Tryz.sizeOf20
  v20 := Tryz.zeroValue20
  t37 := Tryz.underlying23
  a37 := Tryz.isAgg23
  z37 := Tryz.sizeOf23
  v37 := Tryz.zeroValue23
  t46 := Tryz.underlying76
  a46 := Tryz.isAgg76
  z46 := Tryz.sizeOf76
  v46 := Tryz.zeroValue76
  t51 := Tryz.underlying156
  a51 := Tryz.isAgg156
  z51 := Tryz.sizeOf156
  v51 := Tryz.zeroValue156
  t53 := Tryz.underlying159
  a53 := Tryz.isAgg159
  z53 := Tryz.sizeOf159
  v53 := Tryz.zeroValue159
  t171 := Tryz.underlying166
  a171 := Tryz.isAgg166
  z171 := Tryz.sizeOf166
  v171 := Tryz.zeroValue166
  t173 := Tryz.underlying169
  a173 := Tryz.isAgg169
  z173 := Tryz.sizeOf169
  v173 := Tryz.zeroValue169
  t212 := Tryz.underlying183
  a212 := Tryz.isAgg183
  z212 := Tryz.sizeOf183
  v212 := Tryz.zeroValue183
  t213 := Tryz.underlying184
  a213 := Tryz.isAgg184
  z213 := Tryz.sizeOf184
  t232 := Tryz.underlying198
  a232 := Tryz.isAgg198
  z232 := Tryz.sizeOf198
  v232 := Tryz.zeroValue198
  t233 := Tryz.underlying199
  a233 := Tryz.isAgg199
  z233 := Tryz.sizeOf199
  v233 := Tryz.zeroValue199
  g17 := by kernel_rfl
  g18 := by kernel_rfl
  g19 := by kernel_rfl
  i0 := by kernel_rfl
  i2 := by kernel_rfl
  i3 := by kernel_rfl
  i4 := by kernel_rfl
  i5 := by kernel_rfl
  i9 := by kernel_rfl
  i20 := by kernel_rfl
  i37 := by kernel_rfl
  i46 := by kernel_rfl
  i51 := by kernel_rfl
  i53 := by kernel_rfl
  i171 := by kernel_rfl
  i173 := by kernel_rfl
  i212 := by kernel_rfl
  i232 := by kernel_rfl
  i233 := by kernel_rfl
  m17 := by kernel_rfl
  m18 := by kernel_rfl
  m19 := by kernel_rfl }
theorem Tryz.strconv_Itoa (n : Int) (h0 : -9223372036854775808 ≤ n) (h1 : n ≤ 9223372036854775807) (w : World) (htab : Lib.TabIs Tryz.prog w "internal/strconv.uint64pow10" .u64 Lib.pow10Tab) :
    Calls Tryz.prog 50 #[.int .i64 n] w fun e w' => e = .returned (.string ⟨(Lib.itoa n).toArray⟩) ∧ ∃ k os, w' = grow (w.drewN k) os := Any.strconv_Itoa Tryz.laysM171 n h0 h1 w htab
def Tryz.laysC172_ren : Go.Shelf.Ren := ⟨fun | 172 => 49 | 244 => 87 | 245 => 88 | 247 => 117 | 279 => 118 | 280 => 119 | 281 => 120 | 282 => 121 | 287 => 139 | 316 => 140 | 171 => 50 | 205 => 141 | 321 => 156 | 322 => 157 | 243 => 89 | 246 => 122 | 283 => 142 | 284 => 143 | 285 => 144 | 286 => 145 | 129 => 159 | 317 => 158 | 318 => 160 | 319 => 161 | 320 => 162 | 337 => 169 | 338 => 170 | n => n, fun | 9 => 9 | 3 => 3 | 75 => 71 | 76 => 72 | 4 => 4 | 5 => 5 | 167 => 141 | 37 => 23 | 0 => 0 | 85 => 142 | 2 => 2 | 168 => 144 | 53 => 159 | 175 => 160 | 46 => 76 | 210 => 164 | 127 => 149 | 145 => 180 | 143 => 178 | 21 => 21 | 171 => 166 | 173 => 169 | 212 => 183 | 51 => 156 | 20 => 20 | 213 => 184 | 232 => 198 | 233 => 199 | 80 => 125 | n => n, fun | 15 => 0 | 16 => 1 | 17 => 3 | 18 => 6 | 19 => 7 | n => n⟩
theorem Tryz.laysC172 : Go.Proofs.LaysC.n172 Tryz.prog Tryz.laysC172_ren := {
  mixed := by kernel_rfl
  f129 := Tryz.func159.trans (congrArg some (by kernel_rfl))
  f171 := Tryz.func50.trans (congrArg some (by kernel_rfl))
  f172 := Tryz.func49.trans (congrArg some (by kernel_rfl))
  f205 := Tryz.func141.trans (congrArg some (by kernel_rfl))
  f243 := Tryz.func89.trans (congrArg some (by kernel_rfl))
  f244 := Tryz.func87.trans (congrArg some (by kernel_rfl))
  f245 := Tryz.func88.trans (congrArg some (by kernel_rfl))
  f246 := Tryz.func122.trans (congrArg some (by kernel_rfl))
  f247 := Tryz.func117.trans (congrArg some (by kernel_rfl))
  f279 := Tryz.func118.trans (congrArg some (by kernel_rfl))
  f280 := Tryz.func119.trans (congrArg some (by kernel_rfl))
  f281 := Tryz.func120.trans (congrArg some (by kernel_rfl))
  f282 := Tryz.func121.trans (congrArg some (by kernel_rfl))
  f283 := Tryz.func142.trans (congrArg some (by kernel_rfl))
  f284 := Tryz.func143.trans (congrArg some (by kernel_rfl))
  f285 := Tryz.func144.trans (congrArg some (by kernel_rfl))
  f286 := Tryz.func145.trans (congrArg some (by kernel_rfl))
  f287 := Tryz.func139.trans (congrArg some (by kernel_rfl))
  f316 := Tryz.func140.trans (congrArg some (by kernel_rfl))
  f317 := Tryz.func158.trans (congrArg some (by kernel_rfl))
  f318 := Tryz.func160.trans (congrArg some (by kernel_rfl))
  f319 := Tryz.func161.trans (congrArg some (by kernel_rfl))
  f320 := Tryz.func162.trans (congrArg some (by kernel_rfl))
  f321 := Tryz.func156.trans (congrArg some (by kernel_rfl))
  f322 := Tryz.func157.trans (congrArg some (by kernel_rfl))
  f337 := Tryz.func169.trans (congrArg some (by kernel_rfl))
  f338 := Tryz.func170.trans (congrArg some (by kernel_rfl))
  t0 := Tryz.underlying0
  a0 := Tryz.isAgg0
  z0 := Tryz.sizeOf0
  v0 := Tryz.zeroValue0
  t2 := Tryz.underlying2
  a2 := Tryz.isAgg2
  z2 := Tryz.sizeOf2
  v2 := Tryz.zeroValue2
  t3 := Tryz.underlying3
  a3 := Tryz.isAgg3
  z3 := Tryz.sizeOf3
  v3 := Tryz.zeroValue3
  t4 := Tryz.underlying4
  a4 := Tryz.isAgg4
  z4 := Tryz.sizeOf4
  v4 := Tryz.zeroValue4
  t5 := Tryz.underlying5
  a5 := Tryz.isAgg5
  z5 := Tryz.sizeOf5
  v5 := Tryz.zeroValue5
  t9 := Tryz.underlying9
  a9 := Tryz.isAgg9
  z9 := Tryz.sizeOf9
  v9 := Tryz.zeroValue9
  t20 := Tryz.underlying20
  a20 := Tryz.isAgg20
  z20 := Tryz.sizeOf20
  v20 := Tryz.zeroValue20
  t21 := Tryz.underlying21
  a21 := Tryz.isAgg21
  z21 := Tryz.sizeOf21
  v21 := Tryz.zeroValue21
  t37 := Tryz.underlying23
  a37 := Tryz.isAgg23
  z37 := Tryz.sizeOf23
  v37 := Tryz.zeroValue23
  t46 := Tryz.underlying76
  a46 := Tryz.isAgg76
  z46 := Tryz.sizeOf76
  v46 := Tryz.zeroValue76
  t51 := Tryz.underlying156
  a51 := Tryz.isAgg156
  z51 := Tryz.sizeOf156
  v51 := Tryz.zeroValue156
  t53 := Tryz.underlying159
  a53 := Tryz.isAgg159
  z53 := Tryz.sizeOf159
  v53 := Tryz.zeroValue159
  t75 := Tryz.underlying71
  a75 := Tryz.isAgg71
  z75 := Tryz.sizeOf71
  v75 := Tryz.zeroValue71
  t76 := Tryz.underlying72
  a76 := Tryz.isAgg72
  z76 := Tryz.sizeOf72
  v76 := Tryz.zeroValue72
  t85 := Tryz.underlying142
  a85 := Tryz.isAgg142
  z85 := Tryz.sizeOf142
  v85 := Tryz.zeroValue142
  t127 := Tryz.underlying149
  a127 := Tryz.isAgg149
  z127 := Tryz.sizeOf149
  v127 := Tryz.zeroValue149
  t143 := Tryz.underlying178
  a143 := Tryz.isAgg178
  z143 := Tryz.sizeOf178
  v143 := Tryz.zeroValue178
  t145 := Tryz.underlying180
  a145 := Tryz.isAgg180
  z145 := Tryz.sizeOf180
  v145 := Tryz.zeroValue180
  t167 := Tryz.underlying141
  a167 := Tryz.isAgg141
  z167 := Tryz.sizeOf141
  v167 := Tryz.zeroValue141
  t168 := Tryz.underlying144
  a168 := Tryz.isAgg144
  z168 := Tryz.sizeOf144
  v168 := Tryz.zeroValue144
  t171 := Tryz.underlying166
  a171 := Tryz.isAgg166
  z171 := Tryz.sizeOf166
  v171 := Tryz.zeroValue166
  t173 := Tryz.underlying169
  a173 := Tryz.isAgg169
  z173 := Tryz.sizeOf169
  v173 := Tryz.zeroValue169
  t175 := Tryz.underlying160
  a175 := Tryz.isAgg160
  z175 := Tryz.sizeOf160
  v175 := Tryz.zeroValue160
  t210 := Tryz.underlying164
  a210 := Tryz.isAgg164
  z210 := Tryz.sizeOf164
  v210 := Tryz.zeroValue164
  t212 := Tryz.underlying183
  a212 := Tryz.isAgg183
  z212 := Tryz.sizeOf183
  v212 := Tryz.zeroValue183
  t213 := Tryz.underlying184
  a213 := Tryz.isAgg184
  z213 := Tryz.sizeOf184
  t232 := Tryz.underlying198
  a232 := Tryz.isAgg198
  z232 := Tryz.sizeOf198
  v232 := Tryz.zeroValue198
  t233 := Tryz.underlying199
  a233 := Tryz.isAgg199
  z233 := Tryz.sizeOf199
  v233 := Tryz.zeroValue199
  g15 := by kernel_rfl
  g16 := by kernel_rfl
  g17 := by kernel_rfl
  g18 := by kernel_rfl
  g19 := by kernel_rfl
  t80 := Tryz.underlying125
  a80 := Tryz.isAgg125
  z80 := Tryz.sizeOf125
  v80 := Tryz.zeroValue125
  i0 := by kernel_rfl
  i2 := by kernel_rfl
  i3 := by kernel_rfl
  i4 := by kernel_rfl
  i5 := by kernel_rfl
  i9 := by kernel_rfl
  i20 := by kernel_rfl
  i21 := by kernel_rfl
  i37 := by kernel_rfl
  i46 := by kernel_rfl
  i51 := by kernel_rfl
  i53 := by kernel_rfl
  i75 := by kernel_rfl
  i76 := by kernel_rfl
  i80 := by kernel_rfl
  i85 := by kernel_rfl
  i127 := by kernel_rfl
  i143 := by kernel_rfl
  i145 := by kernel_rfl
  i167 := by kernel_rfl
  i168 := by kernel_rfl
  i171 := by kernel_rfl
  i173 := by kernel_rfl
  i175 := by kernel_rfl
  i210 := by kernel_rfl
  i212 := by kernel_rfl
  i232 := by kernel_rfl
  i233 := by kernel_rfl
  m15 := by kernel_rfl
  m16 := by kernel_rfl
  m17 := by kernel_rfl
  m18 := by kernel_rfl
  m19 := by kernel_rfl
  c0 := by kernel_rfl
  c2 := by kernel_rfl
  c3 := by kernel_rfl
  c4 := by kernel_rfl
  c5 := by kernel_rfl
  c9 := by kernel_rfl
  c20 := by kernel_rfl
  c21 := by kernel_rfl
  c37 := by kernel_rfl
  c46 := by kernel_rfl
  c51 := by kernel_rfl
  c53 := by kernel_rfl
  c75 := by kernel_rfl
  c76 := by kernel_rfl
  c80 := by kernel_rfl
  c85 := by kernel_rfl
  c127 := by kernel_rfl
  c143 := by kernel_rfl
  c145 := by kernel_rfl
  c167 := by kernel_rfl
  c168 := by kernel_rfl
  c171 := by kernel_rfl
  c173 := by kernel_rfl
  c175 := by kernel_rfl
  c210 := by kernel_rfl
  c212 := by kernel_rfl
  c213 := by kernel_rfl
  c232 := by kernel_rfl
  c233 := by kernel_rfl }
theorem Tryz.strconv_Atoi_ok (s : ByteArray) (hmax : s.size ≤ 9223372036854775806) (v : Int) (h : Lib.atoiAll s.data.toList = .ok v) (w : World) :
    Calls Tryz.prog 49 #[.string s] w fun e w' => e = .returned (.tuple #[.int .i64 v, .nilIface]) ∧ (w' = w ∨ ∃ t, w' = Lib.bytesWorld w 5 t) := Any.strconv_Atoi_ok Tryz.laysC172 s hmax v h w
theorem Tryz.strconv_Atoi_range_var (s : ByteArray) (hlim : s.size ≤ 281474976710656) (h : Lib.atoiAll s.data.toList = .range) (tp : TypeId) (p : Value) (w : World) (hvar : w.var? Tryz.prog "strconv.ErrRange" = some #[.iface tp p]) :
    Calls Tryz.prog 49 #[.string s] w fun e w' => ∃ N, e = .returned (.tuple #[.int .i64 (Lib.atoiSat s.data.toList), .iface 144 (.pointer (some ⟨N, 0, none⟩))]) ∧ w.heap.size ≤ N ∧ w'.heap[N]? = some (.cells #[.string ⟨#[65, 116, 111, 105]⟩, .string s, .iface tp p] 164 (0, 0)) ∧ Below w.heap.size w w' := Any.strconv_Atoi_range_var Tryz.laysC172 s hlim h tp p w hvar
def Tryz.lays145_ren : Go.Shelf.Ren := ⟨fun | 145 => 100 | 220 => 127 | 219 => 148 | 217 => 90 | 225 => 163 | 224 => 164 | 267 => 165 | 266 => 123 | 314 => 171 | n => n, fun | 9 => 9 | 4 => 4 | 59 => 128 | 3 => 3 | 5 => 5 | 46 => 76 | 146 => 192 | 51 => 156 | n => n, fun | 1 => 2 | n => n⟩
theorem Tryz.lays145 : Go.Proofs.Lays.n145 Tryz.prog Tryz.lays145_ren := {
  mixed := by kernel_rfl
  f145 := Tryz.func100.trans (congrArg some (by kernel_rfl))
  f217 := Tryz.func90.trans (congrArg some (by kernel_rfl))
  f219 := Tryz.func148.trans (congrArg some (by kernel_rfl))
  f220 := Tryz.func127.trans (congrArg some (by kernel_rfl))
  f224 := Tryz.func164.trans (congrArg some (by kernel_rfl))
  f225 := Tryz.func163.trans (congrArg some (by kernel_rfl))
  f266 := Tryz.func123.trans (congrArg some (by kernel_rfl))
  f267 := Tryz.func165.trans (congrArg some (by kernel_rfl))
  f314 := Tryz.func171.trans (congrArg some (by kernel_rfl))
  t3 := Tryz.underlying3
  a3 := Tryz.isAgg3
  z3 := Tryz.sizeOf3
  v3 := Tryz.zeroValue3
  t4 := Tryz.underlying4
  a4 := Tryz.isAgg4
  z4 := Tryz.sizeOf4
  v4 := Tryz.zeroValue4
  t5 := Tryz.underlying5
  a5 := Tryz.isAgg5
  z5 := Tryz.sizeOf5
  v5 := Tryz.zeroValue5
  t9 := Tryz.underlying9
  a9 := Tryz.isAgg9
  z9 := Tryz.sizeOf9
  v9 := Tryz.zeroValue9
  t46 := Tryz.underlying76
  a46 := Tryz.isAgg76
  z46 := Tryz.sizeOf76
  v46 := Tryz.zeroValue76
  t51 := Tryz.underlying156
  a51 := Tryz.isAgg156
  z51 := Tryz.sizeOf156
  v51 := Tryz.zeroValue156
  t59 := Tryz.underlying128
  a59 := Tryz.isAgg128
  z59 := Tryz.sizeOf128
  v59 := Tryz.zeroValue128
  t146 := Tryz.underlying192
  a146 := Tryz.isAgg192
  z146 := Tryz.sizeOf192
  v146 := Tryz.zeroValue192
  g1 := by kernel_rfl }
theorem Tryz.strings_Cut (s sep : ByteArray) (m : Int) (w : World) (hs : s.size < 4294967281) (hm : w.cell? ⟨2, 0, none⟩ = some (.int .i64 m)) :
    Calls Tryz.prog 100 #[.string s, .string sep] w fun e w' => e = .returned (.tuple #[.string ⟨(Lib.cut s.data.toList sep.data.toList).1.toArray⟩, .string ⟨(Lib.cut s.data.toList sep.data.toList).2.1.toArray⟩, .bool (Lib.cut s.data.toList sep.data.toList).2.2]) ∧ ∃ n, w' = w.drewN n := Any.strings_Cut Tryz.lays145 s sep m w hs hm
def Tryz.lays146_ren : Go.Shelf.Ren := ⟨fun | 146 => 72 | 221 => 102 | 268 => 128 | 138 => 129 | 143 => 130 | 195 => 149 | 197 => 150 | 218 => 151 | 219 => 148 | 260 => 166 | 217 => 90 | 225 => 163 | 224 => 164 | 267 => 165 | 266 => 123 | 314 => 171 | n => n, fun | 9 => 9 | 31 => 83 | 3 => 3 | 4 => 4 | 0 => 0 | 105 => 174 | 21 => 21 | 5 => 5 | 46 => 76 | 119 => 194 | 139 => 197 | 138 => 196 | 146 => 192 | 51 => 156 | n => n, fun | 1 => 2 | 3 => 4 | 4 => 5 | n => n⟩
theorem Tryz.lays146 : Go.Proofs.Lays.n146 Tryz.prog Tryz.lays146_ren := {
  mixed := by kernel_rfl
  f138 := Tryz.func129.trans (congrArg some (by kernel_rfl))
  f143 := Tryz.func130.trans (congrArg some (by kernel_rfl))
  f146 := Tryz.func72.trans (congrArg some (by kernel_rfl))
  f195 := Tryz.func149.trans (congrArg some (by kernel_rfl))
  f197 := Tryz.func150.trans (congrArg some (by kernel_rfl))
  f217 := Tryz.func90.trans (congrArg some (by kernel_rfl))
  f218 := Tryz.func151.trans (congrArg some (by kernel_rfl))
  f219 := Tryz.func148.trans (congrArg some (by kernel_rfl))
  f221 := Tryz.func102.trans (congrArg some (by kernel_rfl))
  f224 := Tryz.func164.trans (congrArg some (by kernel_rfl))
  f225 := Tryz.func163.trans (congrArg some (by kernel_rfl))
  f260 := Tryz.func166.trans (congrArg some (by kernel_rfl))
  f266 := Tryz.func123.trans (congrArg some (by kernel_rfl))
  f267 := Tryz.func165.trans (congrArg some (by kernel_rfl))
  f268 := Tryz.func128.trans (congrArg some (by kernel_rfl))
  f314 := Tryz.func171.trans (congrArg some (by kernel_rfl))
  t0 := Tryz.underlying0
  a0 := Tryz.isAgg0
  z0 := Tryz.sizeOf0
  v0 := Tryz.zeroValue0
  t3 := Tryz.underlying3
  a3 := Tryz.isAgg3
  z3 := Tryz.sizeOf3
  v3 := Tryz.zeroValue3
  t4 := Tryz.underlying4
  a4 := Tryz.isAgg4
  z4 := Tryz.sizeOf4
  v4 := Tryz.zeroValue4
  t5 := Tryz.underlying5
  a5 := Tryz.isAgg5
  z5 := Tryz.sizeOf5
  v5 := Tryz.zeroValue5
  t9 := Tryz.underlying9
  a9 := Tryz.isAgg9
  z9 := Tryz.sizeOf9
  v9 := Tryz.zeroValue9
  t21 := Tryz.underlying21
  a21 := Tryz.isAgg21
  z21 := Tryz.sizeOf21
  v21 := Tryz.zeroValue21
  t31 := Tryz.underlying83
  a31 := Tryz.isAgg83
  z31 := Tryz.sizeOf83
  v31 := Tryz.zeroValue83
  t46 := Tryz.underlying76
  a46 := Tryz.isAgg76
  z46 := Tryz.sizeOf76
  v46 := Tryz.zeroValue76
  t51 := Tryz.underlying156
  a51 := Tryz.isAgg156
  z51 := Tryz.sizeOf156
  v51 := Tryz.zeroValue156
  t105 := Tryz.underlying174
  a105 := Tryz.isAgg174
  z105 := Tryz.sizeOf174
  v105 := Tryz.zeroValue174
  t119 := Tryz.underlying194
  a119 := Tryz.isAgg194
  z119 := Tryz.sizeOf194
  t138 := Tryz.underlying196
  a138 := Tryz.isAgg196
  z138 := Tryz.sizeOf196
  v138 := Tryz.zeroValue196
  t139 := Tryz.underlying197
  a139 := Tryz.isAgg197
  z139 := Tryz.sizeOf197
  v139 := Tryz.zeroValue197
  t146 := Tryz.underlying192
  a146 := Tryz.isAgg192
  z146 := Tryz.sizeOf192
  v146 := Tryz.zeroValue192
  g1 := by kernel_rfl
  g3 := by kernel_rfl
  g4 := by kernel_rfl }
theorem Tryz.strings_Split (s sep : ByteArray) (m : Int) (w : World) (hs : s.size < 4294967281) (hm : w.cell? ⟨2, 0, none⟩ = some (.int .i64 m)) (h1 : 1 ≤ sep.size) :
    Calls Tryz.prog 72 #[.string s, .string sep] w fun e w' =>
      e = .returned (.slice (some ⟨w.heap.size, 0, none⟩) (Lib.countB s sep + 1) (Lib.countB s sep + 1)) ∧ w' = w.alloc (.cells ((Lib.splitB sep 0 (Lib.countB s sep) s).map Value.string).toArray 9) := Any.strings_Split Tryz.lays146 (by kernel_rfl) s sep m w hs hm h1
end Go.Proofs
namespace Go.Proofs.YtmlejhpeoiicpaaGreatDoor.Ab
open Go Go.RowKit
set_option linter.unusedVariables false
set_option linter.unusedSimpArgs false

/-! an empty slice inside an element may be nil -/
/-! own slices of an answer, told as plain ones -/
/-- the end of a body's walk -/
def EndW (X : Cx) (n : Nat) (rs : List (Nat × Option Nat)) (r : Res) (e : Exit) (σ' : AS) : Prop := (e = .normal ∨ e = .ret) ∧ ∃ σ2, Wk X σ' σ2 ∧ ∃ σ1, unbox D rs σ2 = some σ1 ∧ ∃ ns rl, Cover D (Ab.freeze σ1 ns) (resS n (rs.map (·.1)) r) rl
theorem conM {G : Ctr} {M : MCtr} (hM : MOk Tryz.prog D G M) (hok : GOk Tryz.prog D G) {f : Nat} {fn : Func} {c : Code} {rs : List (Nat × Option Nat)} {args : List AV} {r : Res} {n : Nat} (hf : Tryz.prog.funcs[f]? = some fn) (hres : fn.results = (rs.map toRV).toArray) (hn : fn.ntmps = n) (lo : Nat → Lo)
    (h : ∀ X : Cx, X.P = Tryz.prog → X.D = D ∧ X.nb = 0 ∧ X.M = M → X.G = G → X.Ok → evC X lo c (EndW X n rs r) (argS n args))
    (hb : fn.body = some c := by rfl) (hname : (fn.name == "runtime.NumGoroutine") = false := by decide) (hd : (rs.map (·.1)).Nodup := by decide) (hfit : resFit (rs.map (·.1)) r.v = true := by rfl) (hlen : args.length ≤ n ∧ n ≤ 65536 := by simp) (hnm : namess args = [] := by simp [namess, names]) : Con Tryz.prog D f args r :=
  con_ofM hM mixed tok hok hf hb hname hres hd hfit hn hlen hnm fun X hP hD hG hX => fun γ a w hs => wp_mono (evC_sound hX lo _ _ _ (h X hP hD hG hX) γ a w hs) fun e a' w' ⟨σ', ⟨h1, σ2, h2, h3⟩, h4⟩ => ⟨σ2, ⟨h1, h3⟩, h2 γ a' w' h4⟩
theorem conW {G : Ctr} (hok : GOk Tryz.prog D G) {f : Nat} {fn : Func} {c : Code} {rs : List (Nat × Option Nat)} {args : List AV} {r : Res} {n : Nat} (hf : Tryz.prog.funcs[f]? = some fn) (hres : fn.results = (rs.map toRV).toArray) (hn : fn.ntmps = n) (lo : Nat → Lo)
    (h : ∀ X : Cx, X.P = Tryz.prog → X.D = D ∧ X.nb = 0 ∧ X.M = noM → X.G = G → X.Ok → evC X lo c (EndW X n rs r) (argS n args))
    (hb : fn.body = some c := by rfl) (hname : (fn.name == "runtime.NumGoroutine") = false := by decide) (hd : (rs.map (·.1)).Nodup := by decide) (hfit : resFit (rs.map (·.1)) r.v = true := by rfl) (hlen : args.length ≤ n ∧ n ≤ 65536 := by simp) (hnm : namess args = [] := by simp [namess, names]) : Con Tryz.prog D f args r :=
  conM MOk.none hok hf hres hn lo h hb hname hd hfit hlen hnm
/-- the end, plainly -/
theorem endW {X : Cx} {n : Nat} {rs : List (Nat × Option Nat)} {r : Res} {e : Exit} {σ' σ1 : AS} (ns : List Nat) (rl : List (Nat × Nat)) (he : e = .normal ∨ e = .ret) (hu : unbox D rs σ' = some σ1) (nt : (resS n (rs.map (·.1)) r).nt = (Ab.freeze σ1 ns).nt) (nd : nodupV rl = true)
    (tm : covT (Ab.freeze σ1 ns) (keys (resS n (rs.map (·.1)) r).bl) rl (resS n (rs.map (·.1)) r).tm) (bl : covB D (Ab.freeze σ1 ns) (keys (resS n (rs.map (·.1)) r).bl) rl (resS n (rs.map (·.1)) r).bl) : EndW X n rs r e σ' :=
  ⟨he, σ', Wk.refl, σ1, hu, ns, rl, nt, nd, tm, bl⟩
attribute [go_sem] asked_none
end Go.Proofs.YtmlejhpeoiicpaaGreatDoor.Ab
namespace Go.Proofs.YtmlejhpeoiicpaaGreatDoor.Ab
open Go Go.RowKit
set_option linter.unusedVariables false
set_option linter.unusedSimpArgs false

/-- from a contract of the kit's, that may ask what package variables hold -/
theorem con_lib {P : Program} {D : Nat → TI} {f : Nat} {fn : Func} {args : List AV} {v0 : AV} (hf : P.funcs[f]? = some fn) (hname : (fn.name == "runtime.NumGoroutine") = false) (hbody : fn.body.isNone = false) (hn : names v0 = [])
    (h : ∀ (w : World) (im : Nat → Prop) (ρ : Env) (vs : Array Value), ImOk w im → Rels w im ρ args vs.toList →
      Calls P f vs w fun e w' => ∃ v, e = .returned v ∧ Below w.heap.size w w' ∧ Rel w' (fun b => b < w'.heap.size ∧ (im b ∨ w.heap.size ≤ b)) ρ v0 v) : Con P D f args ⟨v0, []⟩ := by
  refine ⟨⟨fn, hf, hname, hbody⟩, fun w im ρ vs him hvs => (h w im ρ vs him hvs).mono fun e w' ⟨v, he, hb, hr⟩ => ⟨v, he, ⟨hb.os, hb.tape, hb.output, hb.size, fun b hlt _ => hb.block b hlt⟩, ρ, ?_, ?_, ?_, ?_⟩⟩
  · intro k e sz rs hk; simp at hk
  · intro k l b hk; simp at hk
  · exact hr.mono (fun b hb => ⟨hb.1, hb.2, fun m hm => by simp at hm⟩) (fun _ _ => rfl) (fun _ _ => rfl)
  · intro n hn'; rw [hn] at hn'; cases hn'
/-- strings in a slice -/
def strRow (l : List UInt8) : List AV := [.str l]
def bA (l : List UInt8) : ByteArray := ⟨⟨l⟩⟩
theorem strs_inj : ∀ {l m : List (List UInt8)}, l.map strRow = m.map strRow → l = m
  | [], [], _ => rfl
  | [], _ :: _, h => by simp at h
  | _ :: _, [], h => by simp at h
  | a :: l, b :: m, h => by
    simp only [List.map_cons, List.cons.injEq, strRow, AV.str.injEq, and_true] at h
    rw [h.1, strs_inj h.2]
theorem strGet {l : List (List UInt8)} {i : Nat} (h : i < l.length) : (l.map strRow).getD i [] = strRow (l.getD i []) := by
  simp [h]
section
variable {w : World} {im : Nat → Prop} {ρ : Env}
theorem rel_strs {l : List (List UInt8)} {v : Value} (h : Rel w im ρ (.sl 1 (l.map strRow)) v) : ∃ A c, v = .slice A l.length c ∧ l.length ≤ c ∧ c ≤ maxLen ∧ (0 < l.length → ∃ b o, A = some ⟨b, o, none⟩ ∧ im b ∧ ∀ (j : Nat) x, l[j]? = some x → w.cell? ⟨b, o + j, none⟩ = some (.string (bA x))) := by
  generalize hrs : l.map strRow = rs at h
  cases h with
  | sl sz rs A c b o val hc hm hA hrow hcell hval =>
  subst hrs
  rw [List.length_map] at hc hA ⊢
  refine ⟨A, c, rfl, hc, hm, fun hn => ?_⟩
  obtain ⟨h1, h2⟩ := hA hn
  refine ⟨b, o, h1, h2, fun j x hx => ?_⟩
  have hr : (l.map strRow)[j]? = some (strRow x) := by rw [List.getElem?_map, hx]; rfl
  have h3 := hcell j 0 _ (.str x) hr rfl
  have h4 := (hval j 0 _ (.str x) hr rfl).str_
  rw [h4] at h3
  simpa [bA] using h3.1
theorem strs_rel {b o c : Nat} {l : List (List UInt8)} (hc : l.length ≤ c) (hm : c ≤ maxLen) (hb : im b) (h : ∀ (j : Nat) x, l[j]? = some x → w.cell? ⟨b, o + j, none⟩ = some (.string (bA x))) : Rel w im ρ (.sl 1 (l.map strRow)) (.slice (some ⟨b, o, none⟩) l.length c) := by
  have hrow : ∀ {i j : Nat} {row : List AV} {x : AV}, (l.map strRow)[i]? = some row → row[j]? = some x → ∃ y, l[i]? = some y ∧ j = 0 ∧ x = .str y := fun {i j row x} hi hj => by
    rw [List.getElem?_map] at hi
    obtain ⟨y, hy, rfl⟩ := Option.map_eq_some_iff.1 hi
    have hj0 : j = 0 := by have := (List.getElem?_eq_some_iff.1 hj).1; simp [strRow] at this; exact this
    subst hj0
    simp [strRow] at hj
    exact ⟨y, hy, rfl, hj.symm⟩
  have := Rel.sl (w := w) (im := im) (ρ := ρ) 1 (l.map strRow) (some ⟨b, o, none⟩) c b o (fun i _ => .string (bA (l.getD i []))) (by simpa using hc) hm (fun _ => ⟨rfl, hb⟩) (fun i row hi => ?_) (fun i j row x hi hj => ?_) (fun i j row x hi hj => ?_)
  · rw [List.length_map] at this; exact this
  · rw [List.getElem?_map] at hi
    obtain ⟨y, _, rfl⟩ := Option.map_eq_some_iff.1 hi
    rfl
  · obtain ⟨y, hy, rfl, rfl⟩ := hrow hi hj
    have hg : l.getD i [] = y := by simp [hy]
    refine ⟨?_, rfl, by simp [names]⟩
    rw [hg, show o + (i * 1 + 0) = o + i by omega]
    exact h i y hy
  · obtain ⟨y, hy, rfl, rfl⟩ := hrow hi hj
    have hg : l.getD i [] = y := by simp [hy]
    rw [hg]
    exact .str y
end
theorem con_cutprefix (s p : List UInt8) : Con Tryz.prog D 52 [.str s, .str p] ⟨.tup [.str (Lib.trimPrefix s p), .bool (Lib.hasPrefix s p)], []⟩ := by
  refine con_lib Tryz.func52 (by decide) rfl (by simp [names, namess]) fun w im ρ vs him hvs => ?_
  obtain ⟨v, u, rfl, hv, hu⟩ := rels_two hvs
  rw [hv.str_, hu.str_]
  refine (Tryz.strings_CutPrefix (bA s) (bA p) w).mono fun e w' ⟨he, hw⟩ => ⟨_, he, ?_, tup2_rel (.str _) (.bool _)⟩
  subst hw
  exact Below.refl _ _
theorem con_sindexbyte (s : List UInt8) (c : UInt8) : Con Tryz.prog D 51 [.str s, .int .u8 c.toNat] ⟨.int .i64 (Lib.indexByte s c), []⟩ := by
  refine con_lib Tryz.func51 (by decide) rfl (by simp [names]) fun w im ρ vs him hvs => ?_
  obtain ⟨v, u, rfl, hv, hu⟩ := rels_two hvs
  rw [hv.str_, hu.int_]
  refine (Tryz.strings_IndexByte (bA s) c.toNat w).mono fun e w' ⟨he, hw⟩ => ⟨_, he, ?_, ?_⟩
  · subst hw
    exact Below.refl _ _
  · have : (c.toNat : Int).toNat.toUInt8 = c := by simp
    rw [this]
    exact .int _ _
theorem con_scut (s p : List UInt8) (hs : s.length < 4294967281) : Con Tryz.prog D 100 [.str s, .str p] ⟨.tup [.str (Lib.cut s p).1, .str (Lib.cut s p).2.1, .bool (Lib.cut s p).2.2], []⟩ := by
  refine con_lib Tryz.func100 (by decide) rfl (by simp [names, namess]) fun w im ρ vs him hvs => ?_
  obtain ⟨v, u, rfl, hv, hu⟩ := rels_two hvs
  rw [hv.str_, hu.str_]
  obtain ⟨m, _, _, _, _, hm⟩ := him.2.2.2.1
  refine (Tryz.strings_Cut (bA s) (bA p) m w hs hm).mono fun e w' ⟨he, n, hw⟩ => ⟨_, he, ?_, ?_⟩
  · subst hw
    exact below_drewN (Below.refl _ _) n
  · refine .tup _ _ rfl fun i x v hx hv => ?_
    match i with
    | 0 => simp at hx hv; subst hx hv; exact .str _
    | 1 => simp at hx hv; subst hx hv; exact .str _
    | 2 => simp at hx hv; subst hx hv; exact .bool _
    | i + 3 => simp at hx
theorem con_ssplit (s p : List UInt8) (hs : s.length < 4294967281) (h1 : 1 ≤ p.length) : Con Tryz.prog D 72 [.str s, .str p] ⟨.sl 1 ((Lib.split s p).map strRow), []⟩ := by
  refine con_lib Tryz.func72 (by decide) rfl (by simp [names]) fun w im ρ vs him hvs => ?_
  obtain ⟨v, u, rfl, hv, hu⟩ := rels_two hvs
  rw [hv.str_, hu.str_]
  obtain ⟨m, _, _, _, _, hm⟩ := him.2.2.2.1
  have hlen := Lib.splitB_all (bA p) h1 0 _ (bA s) rfl
  have hdat := Lib.splitB_data (bA p) 0 (Lib.countB (bA s) (bA p)) (bA s)
  have hdl : (Lib.split s p).length = Lib.countB (bA s) (bA p) + 1 := by
    show (Lib.splitK p 0 (Lib.count s p) s).length = _
    rw [← hlen, ← List.length_map (f := fun b : ByteArray => b.data.toList), hdat]
    rfl
  have hle : Lib.countB (bA s) (bA p) ≤ s.length := Lib.countB_le (bA p) h1 _ (bA s) (Nat.le_refl _)
  refine (Tryz.strings_Split (bA s) (bA p) m w hs hm h1).mono fun e w' ⟨he, hw⟩ => ⟨_, he, ?_, ?_⟩
  · subst hw
    exact (Below.refl _ _).alloc (Nat.le_refl _) _
  · subst hw
    rw [← hdl]
    refine strs_rel (o := 0) (Nat.le_refl _) (by rw [hdl]; unfold maxLen; omega) ⟨by simp, .inr (Nat.le_refl _)⟩ fun j x hx => ?_
    have hx' : ((Lib.splitB (bA p) 0 (Lib.countB (bA s) (bA p)) (bA s)).map (·.data.toList))[j]? = some x := by rw [hdat]; exact hx
    rw [List.getElem?_map] at hx'
    obtain ⟨y, hy, rfl⟩ := Option.map_eq_some_iff.1 hx'
    rw [Nat.zero_add, World.cell?_alloc_at _ _ _ _ rfl]
    simp only [List.getElem?_toArray, List.getElem?_map, hy, Option.map_some]
    rfl
theorem con_sjoin (l : List (List UInt8)) (p : List UInt8) (hN : (Lib.join l p).length ≤ 1099511627776) (hl : l.length ≤ 1099511627776) : Con Tryz.prog D 57 [.sl 1 (l.map strRow), .str p] ⟨.str (Lib.join l p), []⟩ := by
  refine con_lib Tryz.func57 (by decide) rfl (by simp [names]) fun w im ρ vs him hvs => ?_
  obtain ⟨v, u, rfl, hv, hu⟩ := rels_two hvs
  rw [hu.str_]
  obtain ⟨A, c, rfl, h1, h2, h3⟩ := rel_strs hv
  rcases Nat.eq_zero_or_pos l.length with h0 | h0
  · have h0 := List.eq_nil_of_length_eq_zero h0
    subst h0
    refine (Tryz.strings_Join_none A c (bA p) w).mono fun e w' ⟨he, hw⟩ => ⟨_, he, ?_, .str _⟩
    subst hw
    exact Below.refl _ _
  · obtain ⟨b, o, rfl, hb, hcell⟩ := h3 h0
    have hm : (l.map bA).map (·.data.toList) = l := by rw [List.map_map]; exact List.map_id' l
    have := Tryz.strings_Join b o c (l.map bA) (bA p) w (fun j x hx => by
      rw [List.getElem?_map] at hx
      obtain ⟨y, hy, rfl⟩ := Option.map_eq_some_iff.1 hx
      exact hcell j y hy) (him.1 b hb) (by simp; omega) (by simpa using h1) (by rw [hm]; show (Lib.join l p).length ≤ _; omega)
    rw [List.length_map, hm] at this
    exact this.mono fun e w' ⟨he, hw⟩ => ⟨_, he, hw, .str _⟩
theorem con_itoa (n : Int) (h0 : -9223372036854775808 ≤ n) (h1 : n ≤ 9223372036854775807) : Con Tryz.prog D 50 [.int .i64 n] ⟨.str (Lib.itoa n), []⟩ := by
  refine con_lib Tryz.func50 (by decide) rfl (by simp [names]) fun w im ρ vs him hvs => ?_
  obtain ⟨v, rfl, hv⟩ := rels_one hvs
  rw [hv.int_]
  obtain ⟨t, f, ht⟩ := him.2.2.1
  refine (Tryz.strconv_Itoa n h0 h1 w ?_).mono fun e w' ⟨he, k, os, hw⟩ => ⟨_, he, ?_, .str _⟩
  · unfold Lib.TabIs World.var?
    rw [show Tryz.prog.globalNamed _ = some 3 by kernel_rfl]
    simp only [Option.bind_some, ht]
  · subst hw
    refine ⟨rfl, rfl, rfl, by show w.heap.size ≤ (w.heap ++ os).size; rw [Array.size_append]; omega, fun j hj => ?_⟩
    show (w.heap ++ os)[j]? = w.heap[j]?
    exact Array.getElem?_append_left hj
/-- what strconv.Atoi tells: a number, whether there is an error -/
def atoiS (l : List UInt8) : Int × Bool := match Lib.atoiAll l with
  | .ok v => (v, false)
  | .range => (Lib.atoiSat l, true)
  | _ => (0, true)
theorem con_atoi (s : List UInt8) (hs : s.length ≤ 281474976710656) : Con Tryz.prog D 49 [.str s] ⟨.tup [.int .i64 (atoiS s).1, .ifc (atoiS s).2], []⟩ := by
  refine con_lib Tryz.func49 (by decide) rfl (by simp [names, namess]) fun w im ρ vs him hvs => ?_
  obtain ⟨v, rfl, hv⟩ := rels_one hvs
  rw [hv.str_]
  obtain ⟨tp, p, t, f, hv1⟩ := him.2.2.2.2.1
  obtain ⟨tp2, p2, t2, f2, hv2⟩ := him.2.2.2.2.2
  unfold atoiS
  rcases ha : Lib.atoiAll s with x | _ | _
  · refine (Tryz.strconv_Atoi_ok (bA s) (by show s.length ≤ _; omega) x ha w).mono fun e w' ⟨he, hw⟩ => ⟨_, he, ?_, tup2_rel (.int _ _) (.ifc _ _ rfl)⟩
    rcases hw with rfl | ⟨q, rfl⟩
    · exact Below.refl _ _
    · exact Lib.bytesWorld_below w _ q
  · refine (Any.strconv_Atoi_syntax_var Tryz.laysC172 (bA s) hs ha tp p w ?_).mono fun e w' ⟨N, he, h1, h2, h3⟩ => ⟨_, he, h3, tup2_rel (.int _ _) (.ifc _ _ rfl)⟩
    unfold World.var?
    rw [show Tryz.prog.globalNamed _ = some 0 by kernel_rfl]
    simp only [Option.bind_some, hv1]
  · refine (Tryz.strconv_Atoi_range_var (bA s) hs ha tp2 p2 w ?_).mono fun e w' ⟨N, he, h1, h2, h3⟩ => ⟨_, he, h3, tup2_rel (.int _ _) (.ifc _ _ rfl)⟩
    unfold World.var?
    rw [show Tryz.prog.globalNamed _ = some 1 by kernel_rfl]
    simp only [Option.bind_some, hv2]
end Go.Proofs.YtmlejhpeoiicpaaGreatDoor.Ab
namespace Go.Proofs.YtmlejhpeoiicpaaGreatDoor.Ab
open Go Go.RowKit
set_option linter.unusedVariables false
set_option linter.unusedSimpArgs false

theorem Con.weak {P : Program} {D : Nat → TI} {f : Nat} {args args' : List AV} {r : Res} (h : Con P D f args r) (hc : covs [] args' args) : Con P D f args' r := by
  obtain ⟨h0, h⟩ := h
  refine ⟨h0, fun w im ρ vs him hvs => h w im (fun _ => ⟨none, none, 0, 0, 0, fun _ => none⟩) vs him ?_⟩
  obtain ⟨h1, h2⟩ := hvs
  obtain ⟨q1, q2⟩ := covs_get hc
  refine ⟨by rw [h1, q1], fun i y v hy hv => ?_⟩
  obtain ⟨x, hx, hxy⟩ := q2 i y hy
  exact (h2 i x v hx hv).cov (fun _ h => h) (fun n t hn => by simp [get] at hn) (fun _ _ => rfl) hxy
end Go.Proofs.YtmlejhpeoiicpaaGreatDoor.Ab
namespace Go.Proofs.YtmlejhpeoiicpaaGreatDoor.Ab
open Go Go.RowKit
set_option linter.unusedVariables false

theorem var_block {W : World} {n : String} {g : Nat} {cs : Array Value} (hg : Tryz.prog.globalNamed n = some g) (h : W.var? Tryz.prog n = some cs) : ∃ t f, W.heap[g]? = some (.cells cs t f) := by
  unfold World.var? at h
  rw [hg] at h
  simp only [Option.bind_some] at h
  split at h
  · rename_i c t f e
    cases h
    exact ⟨t, f, e⟩
  · cases h
set_option maxRecDepth 100000 in
theorem max_some {W : World} (h : W.ShapedOpen Tryz.prog) : ∃ m cs t f, W.heap[2]? = some (.cells cs t f) ∧ W.cell? ⟨2, 0, none⟩ = some (.int .i64 m) := by
  unfold World.ShapedOpen at h
  obtain ⟨cs, hb, hs, hr⟩ := h.1 2 #[.int .i64 0] 3 (of_decide_eq_true (by kernel_rfl)) (by kernel_rfl)
  obtain ⟨ts, h1, h2, h3⟩ := hr (by kernel_rfl)
  have e : Tryz.prog.cellTypes Tryz.prog.depth 3 = some [3] := by kernel_rfl
  rw [e] at h1
  cases h1
  have h1 : 0 < cs.size := by rw [hs]; decide
  obtain ⟨u, hu, ok⟩ := h3 0 cs[0] (by simp [h1])
  simp at hu
  subst hu
  unfold Cell.ok at ok
  rw [Tryz.underlying3] at ok
  cases hc : cs[0] <;> rw [hc] at ok <;> simp at ok
  obtain ⟨rfl, _⟩ := ok
  rename_i z hz
  exact ⟨z, cs, _, _, hb, by simp [World.cell?, hb, h1, hc]⟩
theorem iface_block {W : World} {n nm : String} {d : DataW Unit} {g ti : Nat} {ms : Array (String × TypeId)} (hg : Tryz.prog.globalNamed n = some g) (ht : (Tryz.prog.globals[g]?).map (·.type) = some ti) (hi : Tryz.prog.underlying ti = some (.interface ms))
    (h : Lib.VarReads Tryz.prog W n (.iface nm d)) : ∃ tp p t f, W.heap[g]? = some (.cells #[.iface tp p] t f) := by
  obtain ⟨g', t, cs, fuel, p, h1, h2, h3, h4⟩ := h
  obtain rfl := Option.some.inj (hg.symm.trans h1)
  obtain rfl := Option.some.inj (ht.symm.trans h2)
  obtain ⟨_, u, v, e, _⟩ := iface_of_trod hi h4
  obtain ⟨t, f, hb⟩ := var_block hg h3
  obtain rfl : cs = #[.iface u v] := by cases cs; simp_all
  exact ⟨u, v, t, f, hb⟩
set_option maxRecDepth 100000 in
theorem gi_of_laid {W : World} (h : laidMetH Tryz.prog Rows.webTellsUptoRow.laid W) (hs : W.ShapedOpen Tryz.prog) : GI W ∧ ∀ b ∈ gL, b < W.heap.size := by
  rw [MakeChecks.laidMetH_plain _ _ _ (by kernel_rfl)] at h
  have hp : ∃ t f, W.heap[3]? = some (.cells (Lib.pow10Tab.map fun z => Value.int .u64 z).toArray t f) := by
    have hr : Lib.VarReads Tryz.prog W "internal/strconv.uint64pow10" (Lib.tabData .u64 Lib.pow10Tab) := Lib.laidMet.reads h (by simp only [Rows.webTellsUptoRow]; exact .tail _ (.tail _ (.head _)))
    obtain ⟨g', t, cs, fuel, p, h1, h2, h3, h4⟩ := hr
    have hg : Tryz.prog.globalNamed "internal/strconv.uint64pow10" = some 3 := by kernel_rfl
    obtain rfl := Option.some.inj (hg.symm.trans h1)
    obtain ⟨t', f, hb⟩ := var_block hg h3
    have ht : (Tryz.prog.globals[3]?).map (·.type) = some 183 := by kernel_rfl
    obtain rfl := Option.some.inj (ht.symm.trans h2)
    have := Lib.cells_of_tab (by kernel_rfl : Tryz.prog.underlying 183 = some (.array 20 159)) (by kernel_rfl) (by kernel_rfl) (by kernel_rfl) h4
    exact ⟨t', f, by rw [hb, ← this]⟩
  have h1 := iface_block (g := 0) (ti := 71) (ms := #[("Error", 125)]) (by kernel_rfl) (by kernel_rfl) (by kernel_rfl) (Lib.laidMet.reads h (n := "strconv.ErrSyntax") (by simp only [Rows.webTellsUptoRow]; exact .tail _ (.tail _ (.tail _ (.tail _ (.tail _ (.head _)))))))
  have h2 := iface_block (g := 1) (ti := 71) (ms := #[("Error", 125)]) (by kernel_rfl) (by kernel_rfl) (by kernel_rfl) (Lib.laidMet.reads h (n := "strconv.ErrRange") (by simp only [Rows.webTellsUptoRow]; exact .tail _ (.tail _ (.tail _ (.tail _ (.head _))))))
  have hm := max_some hs
  refine ⟨⟨hp, hm, h1, h2⟩, fun b hb => ?_⟩
  have hlt : ∀ {g : Nat} {o : Obj}, W.heap[g]? = some o → g < W.heap.size := fun h => (Array.getElem?_eq_some_iff.1 h).1
  obtain ⟨_, _, k1⟩ := hp
  obtain ⟨_, _, _, _, k2, _⟩ := hm
  obtain ⟨_, _, _, _, k3⟩ := h1
  obtain ⟨_, _, _, _, k4⟩ := h2
  simp only [gL, List.mem_cons, List.not_mem_nil, or_false] at hb
  rcases hb with rfl | rfl | rfl | rfl
  · exact hlt k1
  · exact hlt k2
  · exact hlt k3
  · exact hlt k4
end Go.Proofs.YtmlejhpeoiicpaaGreatDoor.Ab
