/-
  Texts of the proof, one behind the other: Sh Cw ShA Plg LaL.
  No condition but those that each theorem names.
-/
import Derived.Shelf.Small.Strs
import Derived.Shelf.Small.Wraps
import Derived.Shelf.Strconv.AtoiAll
import Derived.Shelf.Strconv.ErrVarAll
import Derived.Shelf.Strconv.Itoa3
import Derived.Shelf.Strings.Cut
import Derived.Shelf.Strings.OnBuilder
import Derived.Shelf.Strings.Split
import Derived.KernelRfl
import Derived.Test.YtmlejhpeoiicpaaDoorProg
import Derived.Test.YtmlejhpeoiicpaaDoorGD
import Derived.Test.YtmlejhpeoiicpaaDoorGC
import Derived.Test.YtmlejhpeoiicpaaDoorRows
import Derived.Test.YtmlejhpeoiicpaaDoorGB
import Derived.Lib.LaidU8
import Derived.LaidLaws
import Derived.MakeChecks
import Derived.WalkKit
namespace Go.Proofs
open Go.Shelf Go.RowKit Go.Lib Go.Sort
def Tryd.lays156_ren : Go.Shelf.Ren := ⟨fun | 156 => 26 | 165 => 43 | 166 => 44 | 169 => 45 | 240 => 59 | 241 => 60 | 276 => 74 | 277 => 75 | n => n, fun | 31 => 49 | 9 => 9 | 3 => 3 | 4 => 4 | 0 => 0 | 20 => 20 | 72 => 80 | 76 => 84 | 70 => 78 | 37 => 23 | 75 => 83 | 127 => 101 | 164 => 115 | 5 => 5 | 80 => 86 | n => n, fun | n => n⟩
theorem Tryd.lays156 : Go.Proofs.Lays.n156 Tryd.prog Tryd.lays156_ren := {
  mixed := by kernel_rfl
  f156 := Tryd.func26.trans (congrArg some (by kernel_rfl))
  f165 := Tryd.func43.trans (congrArg some (by kernel_rfl))
  f166 := Tryd.func44.trans (congrArg some (by kernel_rfl))
  f169 := Tryd.func45.trans (congrArg some (by kernel_rfl))
  f240 := Tryd.func59.trans (congrArg some (by kernel_rfl))
  f241 := Tryd.func60.trans (congrArg some (by kernel_rfl))
  f276 := Tryd.func74.trans (congrArg some (by kernel_rfl))
  f277 := Tryd.func75.trans (congrArg some (by kernel_rfl))
  t0 := Tryd.underlying0
  a0 := Tryd.isAgg0
  z0 := Tryd.sizeOf0
  v0 := Tryd.zeroValue0
  t3 := Tryd.underlying3
  a3 := Tryd.isAgg3
  z3 := Tryd.sizeOf3
  v3 := Tryd.zeroValue3
  t4 := Tryd.underlying4
  a4 := Tryd.isAgg4
  z4 := Tryd.sizeOf4
  v4 := Tryd.zeroValue4
  t9 := Tryd.underlying9
  a9 := Tryd.isAgg9
  z9 := Tryd.sizeOf9
  v9 := Tryd.zeroValue9
  t20 := Tryd.underlying20
  a20 := Tryd.isAgg20
  z20 := Tryd.sizeOf20
  v20 := Tryd.zeroValue20
  t31 := Tryd.underlying49
  a31 := Tryd.isAgg49
  z31 := Tryd.sizeOf49
  v31 := Tryd.zeroValue49
  t37 := Tryd.underlying23
  a37 := Tryd.isAgg23
  z37 := Tryd.sizeOf23
  v37 := Tryd.zeroValue23
  t70 := Tryd.underlying78
  a70 := Tryd.isAgg78
  z70 := Tryd.sizeOf78
  v70 := Tryd.zeroValue78
  t72 := Tryd.underlying80
  a72 := Tryd.isAgg80
  z72 := Tryd.sizeOf80
  v72 := Tryd.zeroValue80
  t75 := Tryd.underlying83
  a75 := Tryd.isAgg83
  z75 := Tryd.sizeOf83
  v75 := Tryd.zeroValue83
  t76 := Tryd.underlying84
  a76 := Tryd.isAgg84
  z76 := Tryd.sizeOf84
  v76 := Tryd.zeroValue84
  t127 := Tryd.underlying101
  a127 := Tryd.isAgg101
  z127 := Tryd.sizeOf101
  v127 := Tryd.zeroValue101
  t164 := Tryd.underlying115
  a164 := Tryd.isAgg115
  z164 := Tryd.sizeOf115
  v164 := Tryd.zeroValue115 }
theorem Tryd.Builder_Extra_156 : Builder.Extra Tryd.prog Tryd.lays156_ren := {
  sizeBuilder := by kernel_rfl
  liesBuilder := by kernel_rfl
  t5 := Tryd.underlying5
  a5 := Tryd.isAgg5
  z5 := Tryd.sizeOf5
  v5 := Tryd.zeroValue5
  infoByte := by kernel_rfl
  cellsByte := by kernel_rfl
  sizeByte := by kernel_rfl
  neB5 := by decide }
theorem Tryd.strings_Join_none (a : Option Addr) (c : Nat) (sep : ByteArray) (w : World) :
    Calls Tryd.prog 26 #[.slice a 0 c, .string sep] w fun e w' => e = .returned (.string ⟨#[]⟩) ∧ w' = w := Any.strings_Join_none Tryd.lays156 Tryd.Builder_Extra_156 a c sep w
theorem Tryd.strings_Join (bk o c : Nat) (xs : List ByteArray) (sep : ByteArray) (w : World) (hcells : ∀ (j : Nat) x, xs[j]? = some x → w.cell? ⟨bk, o + j, none⟩ = some (.string x)) (hbk : bk < w.heap.size) (hN : xs.length ≤ 140737488355328) (hcap : xs.length ≤ c) (hlen : (Lib.join (xs.map (·.data.toList)) sep.data.toList).length ≤ 140737488355328) :
    Calls Tryd.prog 26 #[.slice (some ⟨bk, o, none⟩) xs.length c, .string sep] w fun e w' => e = .returned (.string ⟨(Lib.join (xs.map (·.data.toList)) sep.data.toList).toArray⟩) ∧ Below w.heap.size w w' := Any.strings_Join Tryd.lays156 Tryd.Builder_Extra_156 bk o c xs sep w hcells hbk hN hcap hlen
def Tryd.lays137_ren : Go.Shelf.Ren := ⟨fun | 137 => 76 | 217 => 91 | 266 => 101 | n => n, fun | 9 => 9 | 5 => 5 | 3 => 3 | n => n, fun | n => n⟩
theorem Tryd.lays137 : Go.Proofs.Lays.n137 Tryd.prog Tryd.lays137_ren := {
  mixed := by kernel_rfl
  f137 := Tryd.func76.trans (congrArg some (by kernel_rfl))
  f217 := Tryd.func91.trans (congrArg some (by kernel_rfl))
  f266 := Tryd.func101.trans (congrArg some (by kernel_rfl))
  t3 := Tryd.underlying3
  a3 := Tryd.isAgg3
  z3 := Tryd.sizeOf3
  v3 := Tryd.zeroValue3
  t5 := Tryd.underlying5
  a5 := Tryd.isAgg5
  z5 := Tryd.sizeOf5
  v5 := Tryd.zeroValue5
  t9 := Tryd.underlying9
  a9 := Tryd.isAgg9
  z9 := Tryd.sizeOf9
  v9 := Tryd.zeroValue9 }
theorem Tryd.strings_IndexByte (s : ByteArray) (c : Int) (w : World) :
    Calls Tryd.prog 76 #[.string s, .int .u8 c] w fun e w' => e = .returned (.int .i64 (Lib.indexByte s.data.toList c.toNat.toUInt8)) ∧ w' = w := Any.strings_IndexByte Tryd.lays137 s c w
def Tryd.lays103_ren : Go.Shelf.Ren := ⟨fun | 103 => 37 | 210 => 56 | 206 => 67 | n => n, fun | 9 => 9 | 4 => 4 | 24 => 71 | 3 => 3 | n => n, fun | n => n⟩
theorem Tryd.lays103 : Go.Proofs.Lays.n103 Tryd.prog Tryd.lays103_ren := {
  mixed := by kernel_rfl
  f103 := Tryd.func37.trans (congrArg some (by kernel_rfl))
  f206 := Tryd.func67.trans (congrArg some (by kernel_rfl))
  f210 := Tryd.func56.trans (congrArg some (by kernel_rfl))
  t3 := Tryd.underlying3
  a3 := Tryd.isAgg3
  z3 := Tryd.sizeOf3
  v3 := Tryd.zeroValue3
  t4 := Tryd.underlying4
  a4 := Tryd.isAgg4
  z4 := Tryd.sizeOf4
  v4 := Tryd.zeroValue4
  t9 := Tryd.underlying9
  a9 := Tryd.isAgg9
  z9 := Tryd.sizeOf9
  v9 := Tryd.zeroValue9
  t24 := Tryd.underlying71
  a24 := Tryd.isAgg71
  z24 := Tryd.sizeOf71
  v24 := Tryd.zeroValue71 }
theorem Tryd.strings_CutPrefix (s p : ByteArray) (w : World) :
    Calls Tryd.prog 37 #[.string s, .string p] w fun e w' => e = .returned (.tuple #[.string ⟨(Lib.trimPrefix s.data.toList p.data.toList).toArray⟩, .bool (Lib.hasPrefix s.data.toList p.data.toList)]) ∧ w' = w := Any.strings_CutPrefix Tryd.lays103 s p w
def Tryd.laysM171_ren : Go.Shelf.Ren := ⟨fun | 171 => 24 | 243 => 40 | 246 => 58 | 283 => 70 | 284 => 71 | 285 => 72 | 286 => 73 | 129 => 87 | 317 => 86 | 318 => 88 | 319 => 89 | 320 => 90 | 337 => 99 | 338 => 100 | n => n, fun | 3 => 3 | 9 => 9 | 2 => 2 | 4 => 4 | 171 => 109 | 0 => 0 | 53 => 110 | 37 => 23 | 5 => 5 | 173 => 113 | 212 => 130 | 51 => 131 | 20 => 20 | 213 => 132 | 46 => 100 | 232 => 152 | 233 => 153 | n => n, fun | 17 => 0 | 18 => 6 | 19 => 7 | n => n⟩
theorem Tryd.laysM171 : Go.Proofs.LaysM.n171 Tryd.prog Tryd.laysM171_ren := {
  mixed := by kernel_rfl
  f129 := Tryd.func87.trans (congrArg some (by kernel_rfl))
  f171 := Tryd.func24.trans (congrArg some (by kernel_rfl))
  f243 := Tryd.func40.trans (congrArg some (by kernel_rfl))
  f246 := Tryd.func58.trans (congrArg some (by kernel_rfl))
  f283 := Tryd.func70.trans (congrArg some (by kernel_rfl))
  f284 := Tryd.func71.trans (congrArg some (by kernel_rfl))
  f285 := Tryd.func72.trans (congrArg some (by kernel_rfl))
  f286 := Tryd.func73.trans (congrArg some (by kernel_rfl))
  f317 := Tryd.func86.trans (congrArg some (by kernel_rfl))
  f318 := Tryd.func88.trans (congrArg some (by kernel_rfl))
  f319 := Tryd.func89.trans (congrArg some (by kernel_rfl))
  f320 := Tryd.func90.trans (congrArg some (by kernel_rfl))
  f337 := Tryd.func99.trans (congrArg some (by kernel_rfl))
  f338 := Tryd.func100.trans (congrArg some (by kernel_rfl))
  t0 := Tryd.underlying0
  a0 := Tryd.isAgg0
  z0 := Tryd.sizeOf0
  v0 := Tryd.zeroValue0
  t2 := Tryd.underlying2
  a2 := Tryd.isAgg2
  z2 := Tryd.sizeOf2
  v2 := Tryd.zeroValue2
  t3 := Tryd.underlying3
  a3 := Tryd.isAgg3
  z3 := Tryd.sizeOf3
  v3 := Tryd.zeroValue3
  t4 := Tryd.underlying4
  a4 := Tryd.isAgg4
  z4 := Tryd.sizeOf4
  v4 := Tryd.zeroValue4
  t5 := Tryd.underlying5
  a5 := Tryd.isAgg5
  z5 := Tryd.sizeOf5
  v5 := Tryd.zeroValue5
  t9 := Tryd.underlying9
  a9 := Tryd.isAgg9
  z9 := Tryd.sizeOf9
  v9 := Tryd.zeroValue9
  t20 := Tryd.underlying20
  a20 := Tryd.isAgg20
  z20 := Tryd.sizeOf20
  v20 := Tryd.zeroValue20
  t37 := Tryd.underlying23
  a37 := Tryd.isAgg23
  z37 := Tryd.sizeOf23
  v37 := Tryd.zeroValue23
  t46 := Tryd.underlying100
  a46 := Tryd.isAgg100
  z46 := Tryd.sizeOf100
  v46 := Tryd.zeroValue100
  t51 := Tryd.underlying131
  a51 := Tryd.isAgg131
  z51 := Tryd.sizeOf131
  v51 := Tryd.zeroValue131
  t53 := Tryd.underlying110
  a53 := Tryd.isAgg110
  z53 := Tryd.sizeOf110
  v53 := Tryd.zeroValue110
  t171 := Tryd.underlying109
  a171 := Tryd.isAgg109
  z171 := Tryd.sizeOf109
  v171 := Tryd.zeroValue109
  t173 := Tryd.underlying113
  a173 := Tryd.isAgg113
  z173 := Tryd.sizeOf113
  v173 := Tryd.zeroValue113
  t212 := Tryd.underlying130
  a212 := Tryd.isAgg130
  z212 := Tryd.sizeOf130
  v212 := Tryd.zeroValue130
  t213 := Tryd.underlying132
  a213 := Tryd.isAgg132
  z213 := Tryd.sizeOf132
  t232 := Tryd.underlying152
  a232 := Tryd.isAgg152
  z232 := Tryd.sizeOf152
  v232 := Tryd.zeroValue152
  t233 := Tryd.underlying153
  a233 := Tryd.isAgg153
  z233 := Tryd.sizeOf153
  v233 := Tryd.zeroValue153
  g17 := by kernel_rfl
  g18 := by kernel_rfl
  g19 := by kernel_rfl
  i0 := by kernel_rfl
  i2 := by kernel_rfl
  i3 := by kernel_rfl
  i4 := by kernel_rfl
  i5 := by kernel_rfl
  i9 := by kernel_rfl
  i20 := by kernel_rfl
  i37 := by kernel_rfl
  i46 := by kernel_rfl
  i51 := by kernel_rfl
  i53 := by kernel_rfl
  i171 := by kernel_rfl
  i173 := by kernel_rfl
  i212 := by kernel_rfl
  i232 := by kernel_rfl
  i233 := by kernel_rfl
  m17 := by kernel_rfl
  m18 := by kernel_rfl
  m19 := by kernel_rfl }
theorem Tryd.strconv_Itoa (n : Int) (h0 : -9223372036854775808 ≤ n) (h1 : n ≤ 9223372036854775807) (w : World) (htab : Lib.TabIs Tryd.prog w "internal/strconv.uint64pow10" .u64 Lib.pow10Tab) :
    Calls Tryd.prog 24 #[.int .i64 n] w fun e w' => e = .returned (.string ⟨(Lib.itoa n).toArray⟩) ∧ ∃ k os, w' = grow (w.drewN k) os := Any.strconv_Itoa Tryd.laysM171 n h0 h1 w htab
def Tryd.laysC172_ren : Go.Shelf.Ren := ⟨fun | 172 => 57 | 244 => 68 | 245 => 69 | 247 => 81 | 279 => 82 | 280 => 83 | 281 => 84 | 282 => 85 | 287 => 96 | 316 => 97 | 171 => 24 | 205 => 98 | 321 => 103 | 322 => 104 | 243 => 40 | 246 => 58 | 283 => 70 | 284 => 71 | 285 => 72 | 286 => 73 | 129 => 87 | 317 => 86 | 318 => 88 | 319 => 89 | 320 => 90 | 337 => 99 | 338 => 100 | n => n, fun | 9 => 9 | 3 => 3 | 75 => 83 | 76 => 84 | 4 => 4 | 5 => 5 | 167 => 122 | 37 => 23 | 0 => 0 | 85 => 123 | 2 => 2 | 168 => 125 | 53 => 110 | 175 => 135 | 46 => 100 | 210 => 139 | 127 => 101 | 145 => 151 | 143 => 149 | 21 => 21 | 171 => 109 | 173 => 113 | 212 => 130 | 51 => 131 | 20 => 20 | 213 => 132 | 232 => 152 | 233 => 153 | 80 => 86 | n => n, fun | 15 => 2 | 16 => 3 | 17 => 0 | 18 => 6 | 19 => 7 | n => n⟩
theorem Tryd.laysC172 : Go.Proofs.LaysC.n172 Tryd.prog Tryd.laysC172_ren := {
  mixed := by kernel_rfl
  f129 := Tryd.func87.trans (congrArg some (by kernel_rfl))
  f171 := Tryd.func24.trans (congrArg some (by kernel_rfl))
  f172 := Tryd.func57.trans (congrArg some (by kernel_rfl))
  f205 := Tryd.func98.trans (congrArg some (by kernel_rfl))
  f243 := Tryd.func40.trans (congrArg some (by kernel_rfl))
  f244 := Tryd.func68.trans (congrArg some (by kernel_rfl))
  f245 := Tryd.func69.trans (congrArg some (by kernel_rfl))
  f246 := Tryd.func58.trans (congrArg some (by kernel_rfl))
  f247 := Tryd.func81.trans (congrArg some (by kernel_rfl))
  f279 := Tryd.func82.trans (congrArg some (by kernel_rfl))
  f280 := Tryd.func83.trans (congrArg some (by kernel_rfl))
  f281 := Tryd.func84.trans (congrArg some (by kernel_rfl))
  f282 := Tryd.func85.trans (congrArg some (by kernel_rfl))
  f283 := Tryd.func70.trans (congrArg some (by kernel_rfl))
  f284 := Tryd.func71.trans (congrArg some (by kernel_rfl))
  f285 := Tryd.func72.trans (congrArg some (by kernel_rfl))
  f286 := Tryd.func73.trans (congrArg some (by kernel_rfl))
  f287 := Tryd.func96.trans (congrArg some (by kernel_rfl))
  f316 := Tryd.func97.trans (congrArg some (by kernel_rfl))
  f317 := Tryd.func86.trans (congrArg some (by kernel_rfl))
  f318 := Tryd.func88.trans (congrArg some (by kernel_rfl))
  f319 := Tryd.func89.trans (congrArg some (by kernel_rfl))
  f320 := Tryd.func90.trans (congrArg some (by kernel_rfl))
  f321 := Tryd.func103.trans (congrArg some (by kernel_rfl))
  f322 := Tryd.func104.trans (congrArg some (by kernel_rfl))
  f337 := Tryd.func99.trans (congrArg some (by kernel_rfl))
  f338 := Tryd.func100.trans (congrArg some (by kernel_rfl))
  t0 := Tryd.underlying0
  a0 := Tryd.isAgg0
  z0 := Tryd.sizeOf0
  v0 := Tryd.zeroValue0
  t2 := Tryd.underlying2
  a2 := Tryd.isAgg2
  z2 := Tryd.sizeOf2
  v2 := Tryd.zeroValue2
  t3 := Tryd.underlying3
  a3 := Tryd.isAgg3
  z3 := Tryd.sizeOf3
  v3 := Tryd.zeroValue3
  t4 := Tryd.underlying4
  a4 := Tryd.isAgg4
  z4 := Tryd.sizeOf4
  v4 := Tryd.zeroValue4
  t5 := Tryd.underlying5
  a5 := Tryd.isAgg5
  z5 := Tryd.sizeOf5
  v5 := Tryd.zeroValue5
  t9 := Tryd.underlying9
  a9 := Tryd.isAgg9
  z9 := Tryd.sizeOf9
  v9 := Tryd.zeroValue9
  t20 := Tryd.underlying20
  a20 := Tryd.isAgg20
  z20 := Tryd.sizeOf20
  v20 := Tryd.zeroValue20
  t21 := Tryd.underlying21
  a21 := Tryd.isAgg21
  z21 := Tryd.sizeOf21
  v21 := Tryd.zeroValue21
  t37 := Tryd.underlying23
  a37 := Tryd.isAgg23
  z37 := Tryd.sizeOf23
  v37 := Tryd.zeroValue23
  t46 := Tryd.underlying100
  a46 := Tryd.isAgg100
  z46 := Tryd.sizeOf100
  v46 := Tryd.zeroValue100
  t51 := Tryd.underlying131
  a51 := Tryd.isAgg131
  z51 := Tryd.sizeOf131
  v51 := Tryd.zeroValue131
  t53 := Tryd.underlying110
  a53 := Tryd.isAgg110
  z53 := Tryd.sizeOf110
  v53 := Tryd.zeroValue110
  t75 := Tryd.underlying83
  a75 := Tryd.isAgg83
  z75 := Tryd.sizeOf83
  v75 := Tryd.zeroValue83
  t76 := Tryd.underlying84
  a76 := Tryd.isAgg84
  z76 := Tryd.sizeOf84
  v76 := Tryd.zeroValue84
  t85 := Tryd.underlying123
  a85 := Tryd.isAgg123
  z85 := Tryd.sizeOf123
  v85 := Tryd.zeroValue123
  t127 := Tryd.underlying101
  a127 := Tryd.isAgg101
  z127 := Tryd.sizeOf101
  v127 := Tryd.zeroValue101
  t143 := Tryd.underlying149
  a143 := Tryd.isAgg149
  z143 := Tryd.sizeOf149
  v143 := Tryd.zeroValue149
  t145 := Tryd.underlying151
  a145 := Tryd.isAgg151
  z145 := Tryd.sizeOf151
  v145 := Tryd.zeroValue151
  t167 := Tryd.underlying122
  a167 := Tryd.isAgg122
  z167 := Tryd.sizeOf122
  v167 := Tryd.zeroValue122
  t168 := Tryd.underlying125
  a168 := Tryd.isAgg125
  z168 := Tryd.sizeOf125
  v168 := Tryd.zeroValue125
  t171 := Tryd.underlying109
  a171 := Tryd.isAgg109
  z171 := Tryd.sizeOf109
  v171 := Tryd.zeroValue109
  t173 := Tryd.underlying113
  a173 := Tryd.isAgg113
  z173 := Tryd.sizeOf113
  v173 := Tryd.zeroValue113
  t175 := Tryd.underlying135
  a175 := Tryd.isAgg135
  z175 := Tryd.sizeOf135
  v175 := Tryd.zeroValue135
  t210 := Tryd.underlying139
  a210 := Tryd.isAgg139
  z210 := Tryd.sizeOf139
  v210 := Tryd.zeroValue139
  t212 := Tryd.underlying130
  a212 := Tryd.isAgg130
  z212 := Tryd.sizeOf130
  v212 := Tryd.zeroValue130
  t213 := Tryd.underlying132
  a213 := Tryd.isAgg132
  z213 := Tryd.sizeOf132
  t232 := Tryd.underlying152
  a232 := Tryd.isAgg152
  z232 := Tryd.sizeOf152
  v232 := Tryd.zeroValue152
  t233 := Tryd.underlying153
  a233 := Tryd.isAgg153
  z233 := Tryd.sizeOf153
  v233 := Tryd.zeroValue153
  g15 := by kernel_rfl
  g16 := by kernel_rfl
  g17 := by kernel_rfl
  g18 := by kernel_rfl
  g19 := by kernel_rfl
  t80 := Tryd.underlying86
  a80 := Tryd.isAgg86
  z80 := Tryd.sizeOf86
  v80 := Tryd.zeroValue86
  i0 := by kernel_rfl
  i2 := by kernel_rfl
  i3 := by kernel_rfl
  i4 := by kernel_rfl
  i5 := by kernel_rfl
  i9 := by kernel_rfl
  i20 := by kernel_rfl
  i21 := by kernel_rfl
  i37 := by kernel_rfl
  i46 := by kernel_rfl
  i51 := by kernel_rfl
  i53 := by kernel_rfl
  i75 := by kernel_rfl
  i76 := by kernel_rfl
  i80 := by kernel_rfl
  i85 := by kernel_rfl
  i127 := by kernel_rfl
  i143 := by kernel_rfl
  i145 := by kernel_rfl
  i167 := by kernel_rfl
  i168 := by kernel_rfl
  i171 := by kernel_rfl
  i173 := by kernel_rfl
  i175 := by kernel_rfl
  i210 := by kernel_rfl
  i212 := by kernel_rfl
  i232 := by kernel_rfl
  i233 := by kernel_rfl
  m15 := by kernel_rfl
  m16 := by kernel_rfl
  m17 := by kernel_rfl
  m18 := by kernel_rfl
  m19 := by kernel_rfl
  c0 := by kernel_rfl
  c2 := by kernel_rfl
  c3 := by kernel_rfl
  c4 := by kernel_rfl
  c5 := by kernel_rfl
  c9 := by kernel_rfl
  c20 := by kernel_rfl
  c21 := by kernel_rfl
  c37 := by kernel_rfl
  c46 := by kernel_rfl
  c51 := by kernel_rfl
  c53 := by kernel_rfl
  c75 := by kernel_rfl
  c76 := by kernel_rfl
  c80 := by kernel_rfl
  c85 := by kernel_rfl
  c127 := by kernel_rfl
  c143 := by kernel_rfl
  c145 := by kernel_rfl
  c167 := by kernel_rfl
  c168 := by kernel_rfl
  c171 := by kernel_rfl
  c173 := by kernel_rfl
  c175 := by kernel_rfl
  c210 := by kernel_rfl
  c212 := by kernel_rfl
  c213 := by kernel_rfl
  c232 := by kernel_rfl
  c233 := by kernel_rfl }
theorem Tryd.strconv_Atoi_ok (s : ByteArray) (hmax : s.size ≤ 9223372036854775806) (v : Int) (h : Lib.atoiAll s.data.toList = .ok v) (w : World) :
    Calls Tryd.prog 57 #[.string s] w fun e w' => e = .returned (.tuple #[.int .i64 v, .nilIface]) ∧ (w' = w ∨ ∃ t, w' = Lib.bytesWorld w 5 t) := Any.strconv_Atoi_ok Tryd.laysC172 s hmax v h w
theorem Tryd.strconv_Atoi_range_var (s : ByteArray) (hlim : s.size ≤ 281474976710656) (h : Lib.atoiAll s.data.toList = .range) (tp : TypeId) (p : Value) (w : World) (hvar : w.var? Tryd.prog "strconv.ErrRange" = some #[.iface tp p]) :
    Calls Tryd.prog 57 #[.string s] w fun e w' => ∃ N, e = .returned (.tuple #[.int .i64 (Lib.atoiSat s.data.toList), .iface 125 (.pointer (some ⟨N, 0, none⟩))]) ∧ w.heap.size ≤ N ∧ w'.heap[N]? = some (.cells #[.string ⟨#[65, 116, 111, 105]⟩, .string s, .iface tp p] 139 (0, 0)) ∧ Below w.heap.size w w' := Any.strconv_Atoi_range_var Tryd.laysC172 s hlim h tp p w hvar
def Tryd.lays145_ren : Go.Shelf.Ren := ⟨fun | 145 => 50 | 220 => 62 | 219 => 77 | 217 => 91 | 225 => 92 | 224 => 93 | 267 => 94 | 266 => 101 | 314 => 102 | n => n, fun | 9 => 9 | 4 => 4 | 59 => 92 | 3 => 3 | 5 => 5 | 46 => 100 | 146 => 142 | 51 => 131 | n => n, fun | 1 => 1 | n => n⟩
theorem Tryd.lays145 : Go.Proofs.Lays.n145 Tryd.prog Tryd.lays145_ren := {
  mixed := by kernel_rfl
  f145 := Tryd.func50.trans (congrArg some (by kernel_rfl))
  f217 := Tryd.func91.trans (congrArg some (by kernel_rfl))
  f219 := Tryd.func77.trans (congrArg some (by kernel_rfl))
  f220 := Tryd.func62.trans (congrArg some (by kernel_rfl))
  f224 := Tryd.func93.trans (congrArg some (by kernel_rfl))
  f225 := Tryd.func92.trans (congrArg some (by kernel_rfl))
  f266 := Tryd.func101.trans (congrArg some (by kernel_rfl))
  f267 := Tryd.func94.trans (congrArg some (by kernel_rfl))
  f314 := Tryd.func102.trans (congrArg some (by kernel_rfl))
  t3 := Tryd.underlying3
  a3 := Tryd.isAgg3
  z3 := Tryd.sizeOf3
  v3 := Tryd.zeroValue3
  t4 := Tryd.underlying4
  a4 := Tryd.isAgg4
  z4 := Tryd.sizeOf4
  v4 := Tryd.zeroValue4
  t5 := Tryd.underlying5
  a5 := Tryd.isAgg5
  z5 := Tryd.sizeOf5
  v5 := Tryd.zeroValue5
  t9 := Tryd.underlying9
  a9 := Tryd.isAgg9
  z9 := Tryd.sizeOf9
  v9 := Tryd.zeroValue9
  t46 := Tryd.underlying100
  a46 := Tryd.isAgg100
  z46 := Tryd.sizeOf100
  v46 := Tryd.zeroValue100
  t51 := Tryd.underlying131
  a51 := Tryd.isAgg131
  z51 := Tryd.sizeOf131
  v51 := Tryd.zeroValue131
  t59 := Tryd.underlying92
  a59 := Tryd.isAgg92
  z59 := Tryd.sizeOf92
  v59 := Tryd.zeroValue92
  t146 := Tryd.underlying142
  a146 := Tryd.isAgg142
  z146 := Tryd.sizeOf142
  v146 := Tryd.zeroValue142
  g1 := by kernel_rfl }
theorem Tryd.strings_Cut (s sep : ByteArray) (m : Int) (w : World) (hs : s.size < 4294967281) (hm : w.cell? ⟨1, 0, none⟩ = some (.int .i64 m)) :
    Calls Tryd.prog 50 #[.string s, .string sep] w fun e w' => e = .returned (.tuple #[.string ⟨(Lib.cut s.data.toList sep.data.toList).1.toArray⟩, .string ⟨(Lib.cut s.data.toList sep.data.toList).2.1.toArray⟩, .bool (Lib.cut s.data.toList sep.data.toList).2.2]) ∧ ∃ n, w' = w.drewN n := Any.strings_Cut Tryd.lays145 s sep m w hs hm
def Tryd.lays146_ren : Go.Shelf.Ren := ⟨fun | 146 => 34 | 221 => 53 | 268 => 63 | 138 => 64 | 143 => 65 | 195 => 78 | 197 => 79 | 218 => 80 | 219 => 77 | 260 => 95 | 217 => 91 | 225 => 92 | 224 => 93 | 267 => 94 | 266 => 101 | 314 => 102 | n => n, fun | 9 => 9 | 31 => 49 | 3 => 3 | 4 => 4 | 0 => 0 | 105 => 120 | 21 => 21 | 5 => 5 | 46 => 100 | 119 => 144 | 139 => 147 | 138 => 146 | 146 => 142 | 51 => 131 | n => n, fun | 1 => 1 | 3 => 4 | 4 => 5 | n => n⟩
theorem Tryd.lays146 : Go.Proofs.Lays.n146 Tryd.prog Tryd.lays146_ren := {
  mixed := by kernel_rfl
  f138 := Tryd.func64.trans (congrArg some (by kernel_rfl))
  f143 := Tryd.func65.trans (congrArg some (by kernel_rfl))
  f146 := Tryd.func34.trans (congrArg some (by kernel_rfl))
  f195 := Tryd.func78.trans (congrArg some (by kernel_rfl))
  f197 := Tryd.func79.trans (congrArg some (by kernel_rfl))
  f217 := Tryd.func91.trans (congrArg some (by kernel_rfl))
  f218 := Tryd.func80.trans (congrArg some (by kernel_rfl))
  f219 := Tryd.func77.trans (congrArg some (by kernel_rfl))
  f221 := Tryd.func53.trans (congrArg some (by kernel_rfl))
  f224 := Tryd.func93.trans (congrArg some (by kernel_rfl))
  f225 := Tryd.func92.trans (congrArg some (by kernel_rfl))
  f260 := Tryd.func95.trans (congrArg some (by kernel_rfl))
  f266 := Tryd.func101.trans (congrArg some (by kernel_rfl))
  f267 := Tryd.func94.trans (congrArg some (by kernel_rfl))
  f268 := Tryd.func63.trans (congrArg some (by kernel_rfl))
  f314 := Tryd.func102.trans (congrArg some (by kernel_rfl))
  t0 := Tryd.underlying0
  a0 := Tryd.isAgg0
  z0 := Tryd.sizeOf0
  v0 := Tryd.zeroValue0
  t3 := Tryd.underlying3
  a3 := Tryd.isAgg3
  z3 := Tryd.sizeOf3
  v3 := Tryd.zeroValue3
  t4 := Tryd.underlying4
  a4 := Tryd.isAgg4
  z4 := Tryd.sizeOf4
  v4 := Tryd.zeroValue4
  t5 := Tryd.underlying5
  a5 := Tryd.isAgg5
  z5 := Tryd.sizeOf5
  v5 := Tryd.zeroValue5
  t9 := Tryd.underlying9
  a9 := Tryd.isAgg9
  z9 := Tryd.sizeOf9
  v9 := Tryd.zeroValue9
  t21 := Tryd.underlying21
  a21 := Tryd.isAgg21
  z21 := Tryd.sizeOf21
  v21 := Tryd.zeroValue21
  t31 := Tryd.underlying49
  a31 := Tryd.isAgg49
  z31 := Tryd.sizeOf49
  v31 := Tryd.zeroValue49
  t46 := Tryd.underlying100
  a46 := Tryd.isAgg100
  z46 := Tryd.sizeOf100
  v46 := Tryd.zeroValue100
  t51 := Tryd.underlying131
  a51 := Tryd.isAgg131
  z51 := Tryd.sizeOf131
  v51 := Tryd.zeroValue131
  t105 := Tryd.underlying120
  a105 := Tryd.isAgg120
  z105 := Tryd.sizeOf120
  v105 := Tryd.zeroValue120
  t119 := Tryd.underlying144
  a119 := Tryd.isAgg144
  z119 := Tryd.sizeOf144
  t138 := Tryd.underlying146
  a138 := Tryd.isAgg146
  z138 := Tryd.sizeOf146
  v138 := Tryd.zeroValue146
  t139 := Tryd.underlying147
  a139 := Tryd.isAgg147
  z139 := Tryd.sizeOf147
  v139 := Tryd.zeroValue147
  t146 := Tryd.underlying142
  a146 := Tryd.isAgg142
  z146 := Tryd.sizeOf142
  v146 := Tryd.zeroValue142
  g1 := by kernel_rfl
  g3 := by kernel_rfl
  g4 := by kernel_rfl }
theorem Tryd.strings_Split (s sep : ByteArray) (m : Int) (w : World) (hs : s.size < 4294967281) (hm : w.cell? ⟨1, 0, none⟩ = some (.int .i64 m)) (h1 : 1 ≤ sep.size) :
    Calls Tryd.prog 34 #[.string s, .string sep] w fun e w' =>
      e = .returned (.slice (some ⟨w.heap.size, 0, none⟩) (Lib.countB s sep + 1) (Lib.countB s sep + 1)) ∧ w' = w.alloc (.cells ((Lib.splitB sep 0 (Lib.countB s sep) s).map Value.string).toArray 9) := Any.strings_Split Tryd.lays146 (by kernel_rfl) s sep m w hs hm h1
end Go.Proofs
namespace Go.Proofs.YtmlejhpeoiicpaaDoor.Ab
open Go Go.RowKit
set_option linter.unusedVariables false
set_option linter.unusedSimpArgs false

/-! an empty slice inside an element may be nil -/
/-! own slices of an answer, told as plain ones -/
/-- the end of a body's walk -/
def EndW (X : Cx) (n : Nat) (rs : List (Nat × Option Nat)) (r : Res) (e : Exit) (σ' : AS) : Prop := (e = .normal ∨ e = .ret) ∧ ∃ σ2, Wk X σ' σ2 ∧ ∃ σ1, unbox D rs σ2 = some σ1 ∧ ∃ ns rl, Cover D (Ab.freeze σ1 ns) (resS n (rs.map (·.1)) r) rl
theorem conM {G : Ctr} {M : MCtr} (hM : MOk Tryd.prog D G M) (hok : GOk Tryd.prog D G) {f : Nat} {fn : Func} {c : Code} {rs : List (Nat × Option Nat)} {args : List AV} {r : Res} {n : Nat} (hf : Tryd.prog.funcs[f]? = some fn) (hres : fn.results = (rs.map toRV).toArray) (hn : fn.ntmps = n) (lo : Nat → Lo)
    (h : ∀ X : Cx, X.P = Tryd.prog → X.D = D ∧ X.nb = 0 ∧ X.M = M → X.G = G → X.Ok → evC X lo c (EndW X n rs r) (argS n args))
    (hb : fn.body = some c := by rfl) (hname : (fn.name == "runtime.NumGoroutine") = false := by decide) (hd : (rs.map (·.1)).Nodup := by decide) (hfit : resFit (rs.map (·.1)) r.v = true := by rfl) (hlen : args.length ≤ n ∧ n ≤ 65536 := by simp) (hnm : namess args = [] := by simp [namess, names]) : Con Tryd.prog D f args r :=
  con_ofM hM mixed tok hok hf hb hname hres hd hfit hn hlen hnm fun X hP hD hG hX => fun γ a w hs => wp_mono (evC_sound hX lo _ _ _ (h X hP hD hG hX) γ a w hs) fun e a' w' ⟨σ', ⟨h1, σ2, h2, h3⟩, h4⟩ => ⟨σ2, ⟨h1, h3⟩, h2 γ a' w' h4⟩
theorem conW {G : Ctr} (hok : GOk Tryd.prog D G) {f : Nat} {fn : Func} {c : Code} {rs : List (Nat × Option Nat)} {args : List AV} {r : Res} {n : Nat} (hf : Tryd.prog.funcs[f]? = some fn) (hres : fn.results = (rs.map toRV).toArray) (hn : fn.ntmps = n) (lo : Nat → Lo)
    (h : ∀ X : Cx, X.P = Tryd.prog → X.D = D ∧ X.nb = 0 ∧ X.M = noM → X.G = G → X.Ok → evC X lo c (EndW X n rs r) (argS n args))
    (hb : fn.body = some c := by rfl) (hname : (fn.name == "runtime.NumGoroutine") = false := by decide) (hd : (rs.map (·.1)).Nodup := by decide) (hfit : resFit (rs.map (·.1)) r.v = true := by rfl) (hlen : args.length ≤ n ∧ n ≤ 65536 := by simp) (hnm : namess args = [] := by simp [namess, names]) : Con Tryd.prog D f args r :=
  conM MOk.none hok hf hres hn lo h hb hname hd hfit hlen hnm
/-- the end, plainly -/
theorem endW {X : Cx} {n : Nat} {rs : List (Nat × Option Nat)} {r : Res} {e : Exit} {σ' σ1 : AS} (ns : List Nat) (rl : List (Nat × Nat)) (he : e = .normal ∨ e = .ret) (hu : unbox D rs σ' = some σ1) (nt : (resS n (rs.map (·.1)) r).nt = (Ab.freeze σ1 ns).nt) (nd : nodupV rl = true)
    (tm : covT (Ab.freeze σ1 ns) (keys (resS n (rs.map (·.1)) r).bl) rl (resS n (rs.map (·.1)) r).tm) (bl : covB D (Ab.freeze σ1 ns) (keys (resS n (rs.map (·.1)) r).bl) rl (resS n (rs.map (·.1)) r).bl) : EndW X n rs r e σ' :=
  ⟨he, σ', Wk.refl, σ1, hu, ns, rl, nt, nd, tm, bl⟩
attribute [go_sem] asked_none
end Go.Proofs.YtmlejhpeoiicpaaDoor.Ab
namespace Go.Proofs.YtmlejhpeoiicpaaDoor.Ab
open Go Go.RowKit
set_option linter.unusedVariables false
set_option linter.unusedSimpArgs false

/-- from a contract of the kit's, that may ask what package variables hold -/
theorem con_lib {P : Program} {D : Nat → TI} {f : Nat} {fn : Func} {args : List AV} {v0 : AV} (hf : P.funcs[f]? = some fn) (hname : (fn.name == "runtime.NumGoroutine") = false) (hbody : fn.body.isNone = false) (hn : names v0 = [])
    (h : ∀ (w : World) (im : Nat → Prop) (ρ : Env) (vs : Array Value), ImOk w im → Rels w im ρ args vs.toList →
      Calls P f vs w fun e w' => ∃ v, e = .returned v ∧ Below w.heap.size w w' ∧ Rel w' (fun b => b < w'.heap.size ∧ (im b ∨ w.heap.size ≤ b)) ρ v0 v) : Con P D f args ⟨v0, []⟩ := by
  refine ⟨⟨fn, hf, hname, hbody⟩, fun w im ρ vs him hvs => (h w im ρ vs him hvs).mono fun e w' ⟨v, he, hb, hr⟩ => ⟨v, he, ⟨hb.os, hb.tape, hb.output, hb.size, fun b hlt _ => hb.block b hlt⟩, ρ, ?_, ?_, ?_, ?_⟩⟩
  · intro k e sz rs hk; simp at hk
  · intro k l b hk; simp at hk
  · exact hr.mono (fun b hb => ⟨hb.1, hb.2, fun m hm => by simp at hm⟩) (fun _ _ => rfl) (fun _ _ => rfl)
  · intro n hn'; rw [hn] at hn'; cases hn'
/-- strings in a slice -/
def strRow (l : List UInt8) : List AV := [.str l]
def bA (l : List UInt8) : ByteArray := ⟨⟨l⟩⟩
theorem strs_inj : ∀ {l m : List (List UInt8)}, l.map strRow = m.map strRow → l = m
  | [], [], _ => rfl
  | [], _ :: _, h => by simp at h
  | _ :: _, [], h => by simp at h
  | a :: l, b :: m, h => by
    simp only [List.map_cons, List.cons.injEq, strRow, AV.str.injEq, and_true] at h
    rw [h.1, strs_inj h.2]
theorem strGet {l : List (List UInt8)} {i : Nat} (h : i < l.length) : (l.map strRow).getD i [] = strRow (l.getD i []) := by
  simp [h]
section
variable {w : World} {im : Nat → Prop} {ρ : Env}
theorem rel_strs {l : List (List UInt8)} {v : Value} (h : Rel w im ρ (.sl 1 (l.map strRow)) v) : ∃ A c, v = .slice A l.length c ∧ l.length ≤ c ∧ c ≤ maxLen ∧ (0 < l.length → ∃ b o, A = some ⟨b, o, none⟩ ∧ im b ∧ ∀ (j : Nat) x, l[j]? = some x → w.cell? ⟨b, o + j, none⟩ = some (.string (bA x))) := by
  generalize hrs : l.map strRow = rs at h
  cases h with
  | sl sz rs A c b o val hc hm hA hrow hcell hval =>
  subst hrs
  rw [List.length_map] at hc hA ⊢
  refine ⟨A, c, rfl, hc, hm, fun hn => ?_⟩
  obtain ⟨h1, h2⟩ := hA hn
  refine ⟨b, o, h1, h2, fun j x hx => ?_⟩
  have hr : (l.map strRow)[j]? = some (strRow x) := by rw [List.getElem?_map, hx]; rfl
  have h3 := hcell j 0 _ (.str x) hr rfl
  have h4 := (hval j 0 _ (.str x) hr rfl).str_
  rw [h4] at h3
  simpa [bA] using h3.1
theorem strs_rel {b o c : Nat} {l : List (List UInt8)} (hc : l.length ≤ c) (hm : c ≤ maxLen) (hb : im b) (h : ∀ (j : Nat) x, l[j]? = some x → w.cell? ⟨b, o + j, none⟩ = some (.string (bA x))) : Rel w im ρ (.sl 1 (l.map strRow)) (.slice (some ⟨b, o, none⟩) l.length c) := by
  have hrow : ∀ {i j : Nat} {row : List AV} {x : AV}, (l.map strRow)[i]? = some row → row[j]? = some x → ∃ y, l[i]? = some y ∧ j = 0 ∧ x = .str y := fun {i j row x} hi hj => by
    rw [List.getElem?_map] at hi
    obtain ⟨y, hy, rfl⟩ := Option.map_eq_some_iff.1 hi
    have hj0 : j = 0 := by have := (List.getElem?_eq_some_iff.1 hj).1; simp [strRow] at this; exact this
    subst hj0
    simp [strRow] at hj
    exact ⟨y, hy, rfl, hj.symm⟩
  have := Rel.sl (w := w) (im := im) (ρ := ρ) 1 (l.map strRow) (some ⟨b, o, none⟩) c b o (fun i _ => .string (bA (l.getD i []))) (by simpa using hc) hm (fun _ => ⟨rfl, hb⟩) (fun i row hi => ?_) (fun i j row x hi hj => ?_) (fun i j row x hi hj => ?_)
  · rw [List.length_map] at this; exact this
  · rw [List.getElem?_map] at hi
    obtain ⟨y, _, rfl⟩ := Option.map_eq_some_iff.1 hi
    rfl
  · obtain ⟨y, hy, rfl, rfl⟩ := hrow hi hj
    have hg : l.getD i [] = y := by simp [hy]
    refine ⟨?_, rfl, by simp [names]⟩
    rw [hg, show o + (i * 1 + 0) = o + i by omega]
    exact h i y hy
  · obtain ⟨y, hy, rfl, rfl⟩ := hrow hi hj
    have hg : l.getD i [] = y := by simp [hy]
    rw [hg]
    exact .str y
end
theorem con_cutprefix (s p : List UInt8) : Con Tryd.prog D 37 [.str s, .str p] ⟨.tup [.str (Lib.trimPrefix s p), .bool (Lib.hasPrefix s p)], []⟩ := by
  refine con_lib Tryd.func37 (by decide) rfl (by simp [names, namess]) fun w im ρ vs him hvs => ?_
  obtain ⟨v, u, rfl, hv, hu⟩ := rels_two hvs
  rw [hv.str_, hu.str_]
  refine (Tryd.strings_CutPrefix (bA s) (bA p) w).mono fun e w' ⟨he, hw⟩ => ⟨_, he, ?_, tup2_rel (.str _) (.bool _)⟩
  subst hw
  exact Below.refl _ _
theorem con_sindexbyte (s : List UInt8) (c : UInt8) : Con Tryd.prog D 76 [.str s, .int .u8 c.toNat] ⟨.int .i64 (Lib.indexByte s c), []⟩ := by
  refine con_lib Tryd.func76 (by decide) rfl (by simp [names]) fun w im ρ vs him hvs => ?_
  obtain ⟨v, u, rfl, hv, hu⟩ := rels_two hvs
  rw [hv.str_, hu.int_]
  refine (Tryd.strings_IndexByte (bA s) c.toNat w).mono fun e w' ⟨he, hw⟩ => ⟨_, he, ?_, ?_⟩
  · subst hw
    exact Below.refl _ _
  · have : (c.toNat : Int).toNat.toUInt8 = c := by simp
    rw [this]
    exact .int _ _
theorem con_scut (s p : List UInt8) (hs : s.length < 4294967281) : Con Tryd.prog D 50 [.str s, .str p] ⟨.tup [.str (Lib.cut s p).1, .str (Lib.cut s p).2.1, .bool (Lib.cut s p).2.2], []⟩ := by
  refine con_lib Tryd.func50 (by decide) rfl (by simp [names, namess]) fun w im ρ vs him hvs => ?_
  obtain ⟨v, u, rfl, hv, hu⟩ := rels_two hvs
  rw [hv.str_, hu.str_]
  obtain ⟨m, _, _, _, _, hm⟩ := him.2.2.2.1
  refine (Tryd.strings_Cut (bA s) (bA p) m w hs hm).mono fun e w' ⟨he, n, hw⟩ => ⟨_, he, ?_, ?_⟩
  · subst hw
    exact below_drewN (Below.refl _ _) n
  · refine .tup _ _ rfl fun i x v hx hv => ?_
    match i with
    | 0 => simp at hx hv; subst hx hv; exact .str _
    | 1 => simp at hx hv; subst hx hv; exact .str _
    | 2 => simp at hx hv; subst hx hv; exact .bool _
    | i + 3 => simp at hx
theorem con_ssplit (s p : List UInt8) (hs : s.length < 4294967281) (h1 : 1 ≤ p.length) : Con Tryd.prog D 34 [.str s, .str p] ⟨.sl 1 ((Lib.split s p).map strRow), []⟩ := by
  refine con_lib Tryd.func34 (by decide) rfl (by simp [names]) fun w im ρ vs him hvs => ?_
  obtain ⟨v, u, rfl, hv, hu⟩ := rels_two hvs
  rw [hv.str_, hu.str_]
  obtain ⟨m, _, _, _, _, hm⟩ := him.2.2.2.1
  have hlen := Lib.splitB_all (bA p) h1 0 _ (bA s) rfl
  have hdat := Lib.splitB_data (bA p) 0 (Lib.countB (bA s) (bA p)) (bA s)
  have hdl : (Lib.split s p).length = Lib.countB (bA s) (bA p) + 1 := by
    show (Lib.splitK p 0 (Lib.count s p) s).length = _
    rw [← hlen, ← List.length_map (f := fun b : ByteArray => b.data.toList), hdat]
    rfl
  have hle : Lib.countB (bA s) (bA p) ≤ s.length := Lib.countB_le (bA p) h1 _ (bA s) (Nat.le_refl _)
  refine (Tryd.strings_Split (bA s) (bA p) m w hs hm h1).mono fun e w' ⟨he, hw⟩ => ⟨_, he, ?_, ?_⟩
  · subst hw
    exact (Below.refl _ _).alloc (Nat.le_refl _) _
  · subst hw
    rw [← hdl]
    refine strs_rel (o := 0) (Nat.le_refl _) (by rw [hdl]; unfold maxLen; omega) ⟨by simp, .inr (Nat.le_refl _)⟩ fun j x hx => ?_
    have hx' : ((Lib.splitB (bA p) 0 (Lib.countB (bA s) (bA p)) (bA s)).map (·.data.toList))[j]? = some x := by rw [hdat]; exact hx
    rw [List.getElem?_map] at hx'
    obtain ⟨y, hy, rfl⟩ := Option.map_eq_some_iff.1 hx'
    rw [Nat.zero_add, World.cell?_alloc_at _ _ _ _ rfl]
    simp only [List.getElem?_toArray, List.getElem?_map, hy, Option.map_some]
    rfl
theorem con_sjoin (l : List (List UInt8)) (p : List UInt8) (hN : (Lib.join l p).length ≤ 1099511627776) (hl : l.length ≤ 1099511627776) : Con Tryd.prog D 26 [.sl 1 (l.map strRow), .str p] ⟨.str (Lib.join l p), []⟩ := by
  refine con_lib Tryd.func26 (by decide) rfl (by simp [names]) fun w im ρ vs him hvs => ?_
  obtain ⟨v, u, rfl, hv, hu⟩ := rels_two hvs
  rw [hu.str_]
  obtain ⟨A, c, rfl, h1, h2, h3⟩ := rel_strs hv
  rcases Nat.eq_zero_or_pos l.length with h0 | h0
  · have h0 := List.eq_nil_of_length_eq_zero h0
    subst h0
    refine (Tryd.strings_Join_none A c (bA p) w).mono fun e w' ⟨he, hw⟩ => ⟨_, he, ?_, .str _⟩
    subst hw
    exact Below.refl _ _
  · obtain ⟨b, o, rfl, hb, hcell⟩ := h3 h0
    have hm : (l.map bA).map (·.data.toList) = l := by rw [List.map_map]; exact List.map_id' l
    have := Tryd.strings_Join b o c (l.map bA) (bA p) w (fun j x hx => by
      rw [List.getElem?_map] at hx
      obtain ⟨y, hy, rfl⟩ := Option.map_eq_some_iff.1 hx
      exact hcell j y hy) (him.1 b hb) (by simp; omega) (by simpa using h1) (by rw [hm]; show (Lib.join l p).length ≤ _; omega)
    rw [List.length_map, hm] at this
    exact this.mono fun e w' ⟨he, hw⟩ => ⟨_, he, hw, .str _⟩
theorem con_itoa (n : Int) (h0 : -9223372036854775808 ≤ n) (h1 : n ≤ 9223372036854775807) : Con Tryd.prog D 24 [.int .i64 n] ⟨.str (Lib.itoa n), []⟩ := by
  refine con_lib Tryd.func24 (by decide) rfl (by simp [names]) fun w im ρ vs him hvs => ?_
  obtain ⟨v, rfl, hv⟩ := rels_one hvs
  rw [hv.int_]
  obtain ⟨t, f, ht⟩ := him.2.2.1
  refine (Tryd.strconv_Itoa n h0 h1 w ?_).mono fun e w' ⟨he, k, os, hw⟩ => ⟨_, he, ?_, .str _⟩
  · unfold Lib.TabIs World.var?
    rw [show Tryd.prog.globalNamed _ = some 0 by kernel_rfl]
    simp only [Option.bind_some, ht]
  · subst hw
    refine ⟨rfl, rfl, rfl, by show w.heap.size ≤ (w.heap ++ os).size; rw [Array.size_append]; omega, fun j hj => ?_⟩
    show (w.heap ++ os)[j]? = w.heap[j]?
    exact Array.getElem?_append_left hj
/-- what strconv.Atoi tells: a number, whether there is an error -/
def atoiS (l : List UInt8) : Int × Bool := match Lib.atoiAll l with
  | .ok v => (v, false)
  | .range => (Lib.atoiSat l, true)
  | _ => (0, true)
theorem con_atoi (s : List UInt8) (hs : s.length ≤ 281474976710656) : Con Tryd.prog D 57 [.str s] ⟨.tup [.int .i64 (atoiS s).1, .ifc (atoiS s).2], []⟩ := by
  refine con_lib Tryd.func57 (by decide) rfl (by simp [names, namess]) fun w im ρ vs him hvs => ?_
  obtain ⟨v, rfl, hv⟩ := rels_one hvs
  rw [hv.str_]
  obtain ⟨tp, p, t, f, hv1⟩ := him.2.2.2.2.1
  obtain ⟨tp2, p2, t2, f2, hv2⟩ := him.2.2.2.2.2
  unfold atoiS
  rcases ha : Lib.atoiAll s with x | _ | _
  · refine (Tryd.strconv_Atoi_ok (bA s) (by show s.length ≤ _; omega) x ha w).mono fun e w' ⟨he, hw⟩ => ⟨_, he, ?_, tup2_rel (.int _ _) (.ifc _ _ rfl)⟩
    rcases hw with rfl | ⟨q, rfl⟩
    · exact Below.refl _ _
    · exact Lib.bytesWorld_below w _ q
  · refine (Any.strconv_Atoi_syntax_var Tryd.laysC172 (bA s) hs ha tp p w ?_).mono fun e w' ⟨N, he, h1, h2, h3⟩ => ⟨_, he, h3, tup2_rel (.int _ _) (.ifc _ _ rfl)⟩
    unfold World.var?
    rw [show Tryd.prog.globalNamed _ = some 2 by kernel_rfl]
    simp only [Option.bind_some, hv1]
  · refine (Tryd.strconv_Atoi_range_var (bA s) hs ha tp2 p2 w ?_).mono fun e w' ⟨N, he, h1, h2, h3⟩ => ⟨_, he, h3, tup2_rel (.int _ _) (.ifc _ _ rfl)⟩
    unfold World.var?
    rw [show Tryd.prog.globalNamed _ = some 3 by kernel_rfl]
    simp only [Option.bind_some, hv2]
end Go.Proofs.YtmlejhpeoiicpaaDoor.Ab
namespace Go.Proofs.YtmlejhpeoiicpaaDoor.Ab
open Go Go.RowKit
set_option linter.unusedVariables false
set_option linter.unusedSimpArgs false

theorem Con.weak {P : Program} {D : Nat → TI} {f : Nat} {args args' : List AV} {r : Res} (h : Con P D f args r) (hc : covs [] args' args) : Con P D f args' r := by
  obtain ⟨h0, h⟩ := h
  refine ⟨h0, fun w im ρ vs him hvs => h w im (fun _ => ⟨none, none, 0, 0, 0, fun _ => none⟩) vs him ?_⟩
  obtain ⟨h1, h2⟩ := hvs
  obtain ⟨q1, q2⟩ := covs_get hc
  refine ⟨by rw [h1, q1], fun i y v hy hv => ?_⟩
  obtain ⟨x, hx, hxy⟩ := q2 i y hy
  exact (h2 i x v hx hv).cov (fun _ h => h) (fun n t hn => by simp [get] at hn) (fun _ _ => rfl) hxy
end Go.Proofs.YtmlejhpeoiicpaaDoor.Ab
namespace Go.Proofs.YtmlejhpeoiicpaaDoor.Ab
open Go Go.RowKit
set_option linter.unusedVariables false

theorem var_block {W : World} {n : String} {g : Nat} {cs : Array Value} (hg : Tryd.prog.globalNamed n = some g) (h : W.var? Tryd.prog n = some cs) : ∃ t f, W.heap[g]? = some (.cells cs t f) := by
  unfold World.var? at h
  rw [hg] at h
  simp only [Option.bind_some] at h
  split at h
  · rename_i c t f e
    cases h
    exact ⟨t, f, e⟩
  · cases h
set_option maxRecDepth 100000 in
theorem max_some {W : World} (h : W.ShapedOpen Tryd.prog) : ∃ m cs t f, W.heap[1]? = some (.cells cs t f) ∧ W.cell? ⟨1, 0, none⟩ = some (.int .i64 m) := by
  unfold World.ShapedOpen at h
  obtain ⟨cs, hb, hs, hr⟩ := h.1 1 #[.int .i64 0] 3 (of_decide_eq_true (by kernel_rfl)) (by kernel_rfl)
  obtain ⟨ts, h1, h2, h3⟩ := hr (by kernel_rfl)
  have e : Tryd.prog.cellTypes Tryd.prog.depth 3 = some [3] := by kernel_rfl
  rw [e] at h1
  cases h1
  have h1 : 0 < cs.size := by rw [hs]; decide
  obtain ⟨u, hu, ok⟩ := h3 0 cs[0] (by simp [h1])
  simp at hu
  subst hu
  unfold Cell.ok at ok
  rw [Tryd.underlying3] at ok
  cases hc : cs[0] <;> rw [hc] at ok <;> simp at ok
  obtain ⟨rfl, _⟩ := ok
  rename_i z hz
  exact ⟨z, cs, _, _, hb, by simp [World.cell?, hb, h1, hc]⟩
theorem iface_block {W : World} {n nm : String} {d : DataW Unit} {g ti : Nat} {ms : Array (String × TypeId)} (hg : Tryd.prog.globalNamed n = some g) (ht : (Tryd.prog.globals[g]?).map (·.type) = some ti) (hi : Tryd.prog.underlying ti = some (.interface ms))
    (h : Lib.VarReads Tryd.prog W n (.iface nm d)) : ∃ tp p t f, W.heap[g]? = some (.cells #[.iface tp p] t f) := by
  obtain ⟨g', t, cs, fuel, p, h1, h2, h3, h4⟩ := h
  obtain rfl := Option.some.inj (hg.symm.trans h1)
  obtain rfl := Option.some.inj (ht.symm.trans h2)
  obtain ⟨_, u, v, e, _⟩ := iface_of_trod hi h4
  obtain ⟨t, f, hb⟩ := var_block hg h3
  obtain rfl : cs = #[.iface u v] := by cases cs; simp_all
  exact ⟨u, v, t, f, hb⟩
set_option maxRecDepth 100000 in
theorem gi_of_laid {W : World} (h : laidMetH Tryd.prog Rows.linesTurnsUptoRow.laid W) (hs : W.ShapedOpen Tryd.prog) : GI W ∧ ∀ b ∈ gL, b < W.heap.size := by
  rw [MakeChecks.laidMetH_plain _ _ _ (by kernel_rfl)] at h
  have hp : ∃ t f, W.heap[0]? = some (.cells (Lib.pow10Tab.map fun z => Value.int .u64 z).toArray t f) := by
    have hr : Lib.VarReads Tryd.prog W "internal/strconv.uint64pow10" (Lib.tabData .u64 Lib.pow10Tab) := Lib.laidMet.reads h (by simp only [Rows.linesTurnsUptoRow]; exact .tail _ (.tail _ (.head _)))
    obtain ⟨g', t, cs, fuel, p, h1, h2, h3, h4⟩ := hr
    have hg : Tryd.prog.globalNamed "internal/strconv.uint64pow10" = some 0 := by kernel_rfl
    obtain rfl := Option.some.inj (hg.symm.trans h1)
    obtain ⟨t', f, hb⟩ := var_block hg h3
    have ht : (Tryd.prog.globals[0]?).map (·.type) = some 130 := by kernel_rfl
    obtain rfl := Option.some.inj (ht.symm.trans h2)
    have := Lib.cells_of_tab (by kernel_rfl : Tryd.prog.underlying 130 = some (.array 20 110)) (by kernel_rfl) (by kernel_rfl) (by kernel_rfl) h4
    exact ⟨t', f, by rw [hb, ← this]⟩
  have h1 := iface_block (g := 2) (ti := 83) (ms := #[("Error", 86)]) (by kernel_rfl) (by kernel_rfl) (by kernel_rfl) (Lib.laidMet.reads h (n := "strconv.ErrSyntax") (by simp only [Rows.linesTurnsUptoRow]; exact .tail _ (.tail _ (.tail _ (.tail _ (.tail _ (.head _)))))))
  have h2 := iface_block (g := 3) (ti := 83) (ms := #[("Error", 86)]) (by kernel_rfl) (by kernel_rfl) (by kernel_rfl) (Lib.laidMet.reads h (n := "strconv.ErrRange") (by simp only [Rows.linesTurnsUptoRow]; exact .tail _ (.tail _ (.tail _ (.tail _ (.head _))))))
  have hm := max_some hs
  refine ⟨⟨hp, hm, h1, h2⟩, fun b hb => ?_⟩
  have hlt : ∀ {g : Nat} {o : Obj}, W.heap[g]? = some o → g < W.heap.size := fun h => (Array.getElem?_eq_some_iff.1 h).1
  obtain ⟨_, _, k1⟩ := hp
  obtain ⟨_, _, _, _, k2, _⟩ := hm
  obtain ⟨_, _, _, _, k3⟩ := h1
  obtain ⟨_, _, _, _, k4⟩ := h2
  simp only [gL, List.mem_cons, List.not_mem_nil, or_false] at hb
  rcases hb with rfl | rfl | rfl | rfl
  · exact hlt k1
  · exact hlt k2
  · exact hlt k3
  · exact hlt k4
end Go.Proofs.YtmlejhpeoiicpaaDoor.Ab
