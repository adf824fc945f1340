/-
  Texts of the proof, one behind the other: Sh Cw ShA Plg LaO.
  No condition but those that each theorem names.
-/
import Derived.Shelf.Small.Strs
import Derived.Shelf.Small.Wraps
import Derived.Shelf.Strconv.AtoiAll
import Derived.Shelf.Strconv.ErrVarAll
import Derived.Shelf.Strconv.Itoa3
import Derived.Shelf.Strings.Cut
import Derived.Shelf.Strings.OnBuilder
import Derived.Shelf.Strings.Split
import Derived.KernelRfl
import Derived.Test.YtlkmgccikgnaeaaGreatDoorProg
import Derived.Test.YtlkmgccikgnaeaaGreatDoorMD
import Derived.Test.YtlkmgccikgnaeaaGreatDoorMC
import Derived.Test.YtlkmgccikgnaeaaGreatDoorRows
import Derived.Test.YtlkmgccikgnaeaaGreatDoorMB
import Derived.Lib.LaidU8
import Derived.LaidLaws
import Derived.MakeChecks
import Derived.WalkKit
set_option linter.unusedVariables false
set_option linter.unusedSimpArgs false
set_option maxRecDepth 100000
set_option maxHeartbeats 16000000
namespace Go.Proofs
open Go.Shelf Go.RowKit Go.Lib Go.Sort
def Tryz.lays156_ren:Go.Shelf.Ren:=⟨fun | 156=> 183 | 165=> 232 | 166=> 233 | 169=> 234 | 240=> 261 | 241=> 262 | 276=> 282 | 277=> 283 | n=> n,fun | 31=> 183 | 9=> 9 | 3=> 3 | 4=> 4 | 0=> 0 | 20=> 20 | 72=> 280 | 76=> 246 | 70=> 278 | 37=> 23 | 75=> 245 | 127=> 304 | 164=> 321 | 5=> 5 | 80=> 222 | n=> n,fun | n=> n⟩
theorem Tryz.lays156:Go.Proofs.Lays.n156 Tryz.prog Tryz.lays156_ren:={
 mixed:=by kernel_rfl
 f156:=Tryz.func183.trans (congrArg some (by kernel_rfl))
 f165:=Tryz.func232.trans (congrArg some (by kernel_rfl))
 f166:=Tryz.func233.trans (congrArg some (by kernel_rfl))
 f169:=Tryz.func234.trans (congrArg some (by kernel_rfl))
 f240:=Tryz.func261.trans (congrArg some (by kernel_rfl))
 f241:=Tryz.func262.trans (congrArg some (by kernel_rfl))
 f276:=Tryz.func282.trans (congrArg some (by kernel_rfl))
 f277:=Tryz.func283.trans (congrArg some (by kernel_rfl))
 t0:=Tryz.underlying0
 a0:=Tryz.isAgg0
 z0:=Tryz.sizeOf0
 v0:=Tryz.zeroValue0
 t3:=Tryz.underlying3
 a3:=Tryz.isAgg3
 z3:=Tryz.sizeOf3
 v3:=Tryz.zeroValue3
 t4:=Tryz.underlying4
 a4:=Tryz.isAgg4
 z4:=Tryz.sizeOf4
 v4:=Tryz.zeroValue4
 t9:=Tryz.underlying9
 a9:=Tryz.isAgg9
 z9:=Tryz.sizeOf9
 v9:=Tryz.zeroValue9
 t20:=Tryz.underlying20
 a20:=Tryz.isAgg20
 z20:=Tryz.sizeOf20
 v20:=Tryz.zeroValue20
 t31:=Tryz.underlying183
 a31:=Tryz.isAgg183
 z31:=Tryz.sizeOf183
 v31:=Tryz.zeroValue183
 t37:=Tryz.underlying23
 a37:=Tryz.isAgg23
 z37:=Tryz.sizeOf23
 v37:=Tryz.zeroValue23
 t70:=Tryz.underlying278
 a70:=Tryz.isAgg278
 z70:=Tryz.sizeOf278
 v70:=Tryz.zeroValue278
 t72:=Tryz.underlying280
 a72:=Tryz.isAgg280
 z72:=Tryz.sizeOf280
 v72:=Tryz.zeroValue280
 t75:=Tryz.underlying245
 a75:=Tryz.isAgg245
 z75:=Tryz.sizeOf245
 v75:=Tryz.zeroValue245
 t76:=Tryz.underlying246
 a76:=Tryz.isAgg246
 z76:=Tryz.sizeOf246
 v76:=Tryz.zeroValue246
 t127:=Tryz.underlying304
 a127:=Tryz.isAgg304
 z127:=Tryz.sizeOf304
 v127:=Tryz.zeroValue304
 t164:=Tryz.underlying321
 a164:=Tryz.isAgg321
 z164:=Tryz.sizeOf321
 v164:=Tryz.zeroValue321}
theorem Tryz.Builder_Extra_156:Builder.Extra Tryz.prog Tryz.lays156_ren:={
 sizeBuilder:=by kernel_rfl
 liesBuilder:=by kernel_rfl
 t5:=Tryz.underlying5
 a5:=Tryz.isAgg5
 z5:=Tryz.sizeOf5
 v5:=Tryz.zeroValue5
 infoByte:=by kernel_rfl
 cellsByte:=by kernel_rfl
 sizeByte:=by kernel_rfl
 neB5:=by decide}
theorem Tryz.strings_Join_none (a:Option Addr) (c:Nat) (sep:ByteArray) (w:World):
  Calls Tryz.prog 183 #[.slice a 0 c,.string sep] w fun e w'=> e=.returned (.string ⟨#[]⟩)∧w'=w:=Any.strings_Join_none Tryz.lays156 Tryz.Builder_Extra_156 a c sep w
theorem Tryz.strings_Join (bk o c:Nat) (xs:List ByteArray) (sep:ByteArray) (w:World) (hcells:∀(j:Nat) x,xs[j]? =some x→w.cell? ⟨bk,o+j,none⟩=some (.string x)) (hbk:bk < w.heap.size) (hN:xs.length≤140737488355328) (hcap:xs.length≤c) (hlen:(Lib.join (xs.map (·.data.toList)) sep.data.toList).length≤140737488355328):
  Calls Tryz.prog 183 #[.slice (some ⟨bk,o,none⟩) xs.length c,.string sep] w fun e w'=> e=.returned (.string ⟨(Lib.join (xs.map (·.data.toList)) sep.data.toList).toArray⟩)∧Below w.heap.size w w':=Any.strings_Join Tryz.lays156 Tryz.Builder_Extra_156 bk o c xs sep w hcells hbk hN hcap hlen
def Tryz.lays137_ren:Go.Shelf.Ren:=⟨fun | 137=> 281 | 217=> 296 | 266=> 305 | n=> n,fun | 9=> 9 | 5=> 5 | 3=> 3 | n=> n,fun | n=> n⟩
theorem Tryz.lays137:Go.Proofs.Lays.n137 Tryz.prog Tryz.lays137_ren:={
 mixed:=by kernel_rfl
 f137:=Tryz.func281.trans (congrArg some (by kernel_rfl))
 f217:=Tryz.func296.trans (congrArg some (by kernel_rfl))
 f266:=Tryz.func305.trans (congrArg some (by kernel_rfl))
 t3:=Tryz.underlying3
 a3:=Tryz.isAgg3
 z3:=Tryz.sizeOf3
 v3:=Tryz.zeroValue3
 t5:=Tryz.underlying5
 a5:=Tryz.isAgg5
 z5:=Tryz.sizeOf5
 v5:=Tryz.zeroValue5
 t9:=Tryz.underlying9
 a9:=Tryz.isAgg9
 z9:=Tryz.sizeOf9
 v9:=Tryz.zeroValue9}
theorem Tryz.strings_IndexByte (s:ByteArray) (c:Int) (w:World):
  Calls Tryz.prog 281 #[.string s,.int .u8 c] w fun e w'=> e=.returned (.int .i64 (Lib.indexByte s.data.toList c.toNat.toUInt8))∧w'=w:=Any.strings_IndexByte Tryz.lays137 s c w
def Tryz.lays103_ren:Go.Shelf.Ren:=⟨fun | 103=> 190 | 210=> 239 | 206=> 267 | n=> n,fun | 9=> 9 | 4=> 4 | 24=> 239 | 3=> 3 | n=> n,fun | n=> n⟩
theorem Tryz.lays103:Go.Proofs.Lays.n103 Tryz.prog Tryz.lays103_ren:={
 mixed:=by kernel_rfl
 f103:=Tryz.func190.trans (congrArg some (by kernel_rfl))
 f206:=Tryz.func267.trans (congrArg some (by kernel_rfl))
 f210:=Tryz.func239.trans (congrArg some (by kernel_rfl))
 t3:=Tryz.underlying3
 a3:=Tryz.isAgg3
 z3:=Tryz.sizeOf3
 v3:=Tryz.zeroValue3
 t4:=Tryz.underlying4
 a4:=Tryz.isAgg4
 z4:=Tryz.sizeOf4
 v4:=Tryz.zeroValue4
 t9:=Tryz.underlying9
 a9:=Tryz.isAgg9
 z9:=Tryz.sizeOf9
 v9:=Tryz.zeroValue9
 t24:=Tryz.underlying239
 a24:=Tryz.isAgg239
 z24:=Tryz.sizeOf239
 v24:=Tryz.zeroValue239}
theorem Tryz.strings_CutPrefix (s p:ByteArray) (w:World):
  Calls Tryz.prog 190 #[.string s,.string p] w fun e w'=> e=.returned (.tuple #[.string ⟨(Lib.trimPrefix s.data.toList p.data.toList).toArray⟩,.bool (Lib.hasPrefix s.data.toList p.data.toList)])∧w'=w:=Any.strings_CutPrefix Tryz.lays103 s p w
def Tryz.laysM171_ren:Go.Shelf.Ren:=⟨fun | 171=> 138 | 243=> 193 | 246=> 240 | 283=> 268 | 284=> 269 | 285=> 270 | 286=> 271 | 129=> 289 | 317=> 288 | 318=> 290 | 319=> 291 | 320=> 292 | 337=> 301 | 338=> 302 | n=> n,fun | 3=> 3 | 9=> 9 | 2=> 2 | 4=> 4 | 171=> 308 | 0=> 0 | 53=> 309 | 37=> 23 | 5=> 5 | 173=> 312 | 212=> 328 | 51=> 174 | 20=> 20 | 213=> 329 | 46=> 260 | 232=> 349 | 233=> 350 | n=> n,fun | 17=> 0 | 18=> 6 | 19=> 7 | n=> n⟩
theorem Tryz.laysM171:Go.Proofs.LaysM.n171 Tryz.prog Tryz.laysM171_ren:={
 mixed:=by kernel_rfl
 f129:=Tryz.func289.trans (congrArg some (by kernel_rfl))
 f171:=Tryz.func138.trans (congrArg some (by kernel_rfl))
 f243:=Tryz.func193.trans (congrArg some (by kernel_rfl))
 f246:=Tryz.func240.trans (congrArg some (by kernel_rfl))
 f283:=Tryz.func268.trans (congrArg some (by kernel_rfl))
 f284:=Tryz.func269.trans (congrArg some (by kernel_rfl))
 f285:=Tryz.func270.trans (congrArg some (by kernel_rfl))
 f286:=Tryz.func271.trans (congrArg some (by kernel_rfl))
 f317:=Tryz.func288.trans (congrArg some (by kernel_rfl))
 f318:=Tryz.func290.trans (congrArg some (by kernel_rfl))
 f319:=Tryz.func291.trans (congrArg some (by kernel_rfl))
 f320:=Tryz.func292.trans (congrArg some (by kernel_rfl))
 f337:=Tryz.func301.trans (congrArg some (by kernel_rfl))
 f338:=Tryz.func302.trans (congrArg some (by kernel_rfl))
 t0:=Tryz.underlying0
 a0:=Tryz.isAgg0
 z0:=Tryz.sizeOf0
 v0:=Tryz.zeroValue0
 t2:=Tryz.underlying2
 a2:=Tryz.isAgg2
 z2:=Tryz.sizeOf2
 v2:=Tryz.zeroValue2
 t3:=Tryz.underlying3
 a3:=Tryz.isAgg3
 z3:=Tryz.sizeOf3
 v3:=Tryz.zeroValue3
 t4:=Tryz.underlying4
 a4:=Tryz.isAgg4
 z4:=Tryz.sizeOf4
 v4:=Tryz.zeroValue4
 t5:=Tryz.underlying5
 a5:=Tryz.isAgg5
 z5:=Tryz.sizeOf5
 v5:=Tryz.zeroValue5
 t9:=Tryz.underlying9
 a9:=Tryz.isAgg9
 z9:=Tryz.sizeOf9
 v9:=Tryz.zeroValue9
 t20:=Tryz.underlying20
 a20:=Tryz.isAgg20
 z20:=Tryz.sizeOf20
 v20:=Tryz.zeroValue20
 t37:=Tryz.underlying23
 a37:=Tryz.isAgg23
 z37:=Tryz.sizeOf23
 v37:=Tryz.zeroValue23
 t46:=Tryz.underlying260
 a46:=Tryz.isAgg260
 z46:=Tryz.sizeOf260
 v46:=Tryz.zeroValue260
 t51:=Tryz.underlying174
 a51:=Tryz.isAgg174
 z51:=Tryz.sizeOf174
 v51:=Tryz.zeroValue174
 t53:=Tryz.underlying309
 a53:=Tryz.isAgg309
 z53:=Tryz.sizeOf309
 v53:=Tryz.zeroValue309
 t171:=Tryz.underlying308
 a171:=Tryz.isAgg308
 z171:=Tryz.sizeOf308
 v171:=Tryz.zeroValue308
 t173:=Tryz.underlying312
 a173:=Tryz.isAgg312
 z173:=Tryz.sizeOf312
 v173:=Tryz.zeroValue312
 t212:=Tryz.underlying328
 a212:=Tryz.isAgg328
 z212:=Tryz.sizeOf328
 v212:=Tryz.zeroValue328
 t213:=Tryz.underlying329
 a213:=Tryz.isAgg329
 z213:=Tryz.sizeOf329
 t232:=Tryz.underlying349
 a232:=Tryz.isAgg349
 z232:=Tryz.sizeOf349
 v232:=Tryz.zeroValue349
 t233:=Tryz.underlying350
 a233:=Tryz.isAgg350
 z233:=Tryz.sizeOf350
 v233:=Tryz.zeroValue350
 g17:=by kernel_rfl
 g18:=by kernel_rfl
 g19:=by kernel_rfl
 i0:=by kernel_rfl
 i2:=by kernel_rfl
 i3:=by kernel_rfl
 i4:=by kernel_rfl
 i5:=by kernel_rfl
 i9:=by kernel_rfl
 i20:=by kernel_rfl
 i37:=by kernel_rfl
 i46:=by kernel_rfl
 i51:=by kernel_rfl
 i53:=by kernel_rfl
 i171:=by kernel_rfl
 i173:=by kernel_rfl
 i212:=by kernel_rfl
 i232:=by kernel_rfl
 i233:=by kernel_rfl
 m17:=by kernel_rfl
 m18:=by kernel_rfl
 m19:=by kernel_rfl}
theorem Tryz.strconv_Itoa (n:Int) (h0: -9223372036854775808≤n) (h1:n≤9223372036854775807) (w:World) (htab:Lib.TabIs Tryz.prog w "internal/strconv.uint64pow10" .u64 Lib.pow10Tab):
  Calls Tryz.prog 138 #[.int .i64 n] w fun e w'=> e=.returned (.string ⟨(Lib.itoa n).toArray⟩)∧∃k os,w'=grow (w.drewN k) os:=Any.strconv_Itoa Tryz.laysM171 n h0 h1 w htab
def Tryz.laysC172_ren:Go.Shelf.Ren:=⟨fun | 172=> 196 | 244=> 241 | 245=> 242 | 247=> 272 | 279=> 273 | 280=> 274 | 281=> 275 | 282=> 276 | 287=> 293 | 316=> 294 | 171=> 138 | 205=> 295 | 321=> 303 | 322=> 304 | 243=> 193 | 246=> 240 | 283=> 268 | 284=> 269 | 285=> 270 | 286=> 271 | 129=> 289 | 317=> 288 | 318=> 290 | 319=> 291 | 320=> 292 | 337=> 301 | 338=> 302 | n=> n,fun | 9=> 9 | 3=> 3 | 75=> 245 | 76=> 246 | 4=> 4 | 5=> 5 | 167=> 314 | 37=> 23 | 0=> 0 | 85=> 315 | 2=> 2 | 168=> 317 | 53=> 309 | 175=> 332 | 46=> 260 | 210=> 336 | 127=> 304 | 145=> 342 | 143=> 340 | 21=> 21 | 171=> 308 | 173=> 312 | 212=> 328 | 51=> 174 | 20=> 20 | 213=> 329 | 232=> 349 | 233=> 350 | 80=> 222 | n=> n,fun | 15=> 1 | 16=> 2 | 17=> 0 | 18=> 6 | 19=> 7 | n=> n⟩
theorem Tryz.laysC172:Go.Proofs.LaysC.n172 Tryz.prog Tryz.laysC172_ren:={
 mixed:=by kernel_rfl
 f129:=Tryz.func289.trans (congrArg some (by kernel_rfl))
 f171:=Tryz.func138.trans (congrArg some (by kernel_rfl))
 f172:=Tryz.func196.trans (congrArg some (by kernel_rfl))
 f205:=Tryz.func295.trans (congrArg some (by kernel_rfl))
 f243:=Tryz.func193.trans (congrArg some (by kernel_rfl))
 f244:=Tryz.func241.trans (congrArg some (by kernel_rfl))
 f245:=Tryz.func242.trans (congrArg some (by kernel_rfl))
 f246:=Tryz.func240.trans (congrArg some (by kernel_rfl))
 f247:=Tryz.func272.trans (congrArg some (by kernel_rfl))
 f279:=Tryz.func273.trans (congrArg some (by kernel_rfl))
 f280:=Tryz.func274.trans (congrArg some (by kernel_rfl))
 f281:=Tryz.func275.trans (congrArg some (by kernel_rfl))
 f282:=Tryz.func276.trans (congrArg some (by kernel_rfl))
 f283:=Tryz.func268.trans (congrArg some (by kernel_rfl))
 f284:=Tryz.func269.trans (congrArg some (by kernel_rfl))
 f285:=Tryz.func270.trans (congrArg some (by kernel_rfl))
 f286:=Tryz.func271.trans (congrArg some (by kernel_rfl))
 f287:=Tryz.func293.trans (congrArg some (by kernel_rfl))
 f316:=Tryz.func294.trans (congrArg some (by kernel_rfl))
 f317:=Tryz.func288.trans (congrArg some (by kernel_rfl))
 f318:=Tryz.func290.trans (congrArg some (by kernel_rfl))
 f319:=Tryz.func291.trans (congrArg some (by kernel_rfl))
 f320:=Tryz.func292.trans (congrArg some (by kernel_rfl))
 f321:=Tryz.func303.trans (congrArg some (by kernel_rfl))
 f322:=Tryz.func304.trans (congrArg some (by kernel_rfl))
 f337:=Tryz.func301.trans (congrArg some (by kernel_rfl))
 f338:=Tryz.func302.trans (congrArg some (by kernel_rfl))
 t0:=Tryz.underlying0
 a0:=Tryz.isAgg0
 z0:=Tryz.sizeOf0
 v0:=Tryz.zeroValue0
 t2:=Tryz.underlying2
 a2:=Tryz.isAgg2
 z2:=Tryz.sizeOf2
 v2:=Tryz.zeroValue2
 t3:=Tryz.underlying3
 a3:=Tryz.isAgg3
 z3:=Tryz.sizeOf3
 v3:=Tryz.zeroValue3
 t4:=Tryz.underlying4
 a4:=Tryz.isAgg4
 z4:=Tryz.sizeOf4
 v4:=Tryz.zeroValue4
 t5:=Tryz.underlying5
 a5:=Tryz.isAgg5
 z5:=Tryz.sizeOf5
 v5:=Tryz.zeroValue5
 t9:=Tryz.underlying9
 a9:=Tryz.isAgg9
 z9:=Tryz.sizeOf9
 v9:=Tryz.zeroValue9
 t20:=Tryz.underlying20
 a20:=Tryz.isAgg20
 z20:=Tryz.sizeOf20
 v20:=Tryz.zeroValue20
 t21:=Tryz.underlying21
 a21:=Tryz.isAgg21
 z21:=Tryz.sizeOf21
 v21:=Tryz.zeroValue21
 t37:=Tryz.underlying23
 a37:=Tryz.isAgg23
 z37:=Tryz.sizeOf23
 v37:=Tryz.zeroValue23
 t46:=Tryz.underlying260
 a46:=Tryz.isAgg260
 z46:=Tryz.sizeOf260
 v46:=Tryz.zeroValue260
 t51:=Tryz.underlying174
 a51:=Tryz.isAgg174
 z51:=Tryz.sizeOf174
 v51:=Tryz.zeroValue174
 t53:=Tryz.underlying309
 a53:=Tryz.isAgg309
 z53:=Tryz.sizeOf309
 v53:=Tryz.zeroValue309
 t75:=Tryz.underlying245
 a75:=Tryz.isAgg245
 z75:=Tryz.sizeOf245
 v75:=Tryz.zeroValue245
 t76:=Tryz.underlying246
 a76:=Tryz.isAgg246
 z76:=Tryz.sizeOf246
 v76:=Tryz.zeroValue246
 t85:=Tryz.underlying315
 a85:=Tryz.isAgg315
 z85:=Tryz.sizeOf315
 v85:=Tryz.zeroValue315
 t127:=Tryz.underlying304
 a127:=Tryz.isAgg304
 z127:=Tryz.sizeOf304
 v127:=Tryz.zeroValue304
 t143:=Tryz.underlying340
 a143:=Tryz.isAgg340
 z143:=Tryz.sizeOf340
 v143:=Tryz.zeroValue340
 t145:=Tryz.underlying342
 a145:=Tryz.isAgg342
 z145:=Tryz.sizeOf342
 v145:=Tryz.zeroValue342
 t167:=Tryz.underlying314
 a167:=Tryz.isAgg314
 z167:=Tryz.sizeOf314
 v167:=Tryz.zeroValue314
 t168:=Tryz.underlying317
 a168:=Tryz.isAgg317
 z168:=Tryz.sizeOf317
 v168:=Tryz.zeroValue317
 t171:=Tryz.underlying308
 a171:=Tryz.isAgg308
 z171:=Tryz.sizeOf308
 v171:=Tryz.zeroValue308
 t173:=Tryz.underlying312
 a173:=Tryz.isAgg312
 z173:=Tryz.sizeOf312
 v173:=Tryz.zeroValue312
 t175:=Tryz.underlying332
 a175:=Tryz.isAgg332
 z175:=Tryz.sizeOf332
 v175:=Tryz.zeroValue332
 t210:=Tryz.underlying336
 a210:=Tryz.isAgg336
 z210:=Tryz.sizeOf336
 v210:=Tryz.zeroValue336
 t212:=Tryz.underlying328
 a212:=Tryz.isAgg328
 z212:=Tryz.sizeOf328
 v212:=Tryz.zeroValue328
 t213:=Tryz.underlying329
 a213:=Tryz.isAgg329
 z213:=Tryz.sizeOf329
 t232:=Tryz.underlying349
 a232:=Tryz.isAgg349
 z232:=Tryz.sizeOf349
 v232:=Tryz.zeroValue349
 t233:=Tryz.underlying350
 a233:=Tryz.isAgg350
 z233:=Tryz.sizeOf350
 v233:=Tryz.zeroValue350
 g15:=by kernel_rfl
 g16:=by kernel_rfl
 g17:=by kernel_rfl
 g18:=by kernel_rfl
 g19:=by kernel_rfl
 t80:=Tryz.underlying222
 a80:=Tryz.isAgg222
 z80:=Tryz.sizeOf222
 v80:=Tryz.zeroValue222
 i0:=by kernel_rfl
 i2:=by kernel_rfl
 i3:=by kernel_rfl
 i4:=by kernel_rfl
 i5:=by kernel_rfl
 i9:=by kernel_rfl
 i20:=by kernel_rfl
 i21:=by kernel_rfl
 i37:=by kernel_rfl
 i46:=by kernel_rfl
 i51:=by kernel_rfl
 i53:=by kernel_rfl
 i75:=by kernel_rfl
 i76:=by kernel_rfl
 i80:=by kernel_rfl
 i85:=by kernel_rfl
 i127:=by kernel_rfl
 i143:=by kernel_rfl
 i145:=by kernel_rfl
 i167:=by kernel_rfl
 i168:=by kernel_rfl
 i171:=by kernel_rfl
 i173:=by kernel_rfl
 i175:=by kernel_rfl
 i210:=by kernel_rfl
 i212:=by kernel_rfl
 i232:=by kernel_rfl
 i233:=by kernel_rfl
 m15:=by kernel_rfl
 m16:=by kernel_rfl
 m17:=by kernel_rfl
 m18:=by kernel_rfl
 m19:=by kernel_rfl
 c0:=by kernel_rfl
 c2:=by kernel_rfl
 c3:=by kernel_rfl
 c4:=by kernel_rfl
 c5:=by kernel_rfl
 c9:=by kernel_rfl
 c20:=by kernel_rfl
 c21:=by kernel_rfl
 c37:=by kernel_rfl
 c46:=by kernel_rfl
 c51:=by kernel_rfl
 c53:=by kernel_rfl
 c75:=by kernel_rfl
 c76:=by kernel_rfl
 c80:=by kernel_rfl
 c85:=by kernel_rfl
 c127:=by kernel_rfl
 c143:=by kernel_rfl
 c145:=by kernel_rfl
 c167:=by kernel_rfl
 c168:=by kernel_rfl
 c171:=by kernel_rfl
 c173:=by kernel_rfl
 c175:=by kernel_rfl
 c210:=by kernel_rfl
 c212:=by kernel_rfl
 c213:=by kernel_rfl
 c232:=by kernel_rfl
 c233:=by kernel_rfl}
theorem Tryz.strconv_Atoi_ok (s:ByteArray) (hmax:s.size≤9223372036854775806) (v:Int) (h:Lib.atoiAll s.data.toList=.ok v) (w:World):
  Calls Tryz.prog 196 #[.string s] w fun e w'=> e=.returned (.tuple #[.int .i64 v,.nilIface])∧(w'=w∨∃t,w'=Lib.bytesWorld w 5 t):=Any.strconv_Atoi_ok Tryz.laysC172 s hmax v h w
theorem Tryz.strconv_Atoi_range_var (s:ByteArray) (hlim:s.size≤281474976710656) (h:Lib.atoiAll s.data.toList=.range) (tp:TypeId) (p:Value) (w:World) (hvar:w.var? Tryz.prog "strconv.ErrRange"=some #[.iface tp p]):
  Calls Tryz.prog 196 #[.string s] w fun e w'=> ∃N,e=.returned (.tuple #[.int .i64 (Lib.atoiSat s.data.toList),.iface 317 (.pointer (some ⟨N,0,none⟩))])∧w.heap.size≤N∧w'.heap[N]? =some (.cells #[.string ⟨#[65,116,111,105]⟩,.string s,.iface tp p] 336 (0,0))∧Below w.heap.size w w':=Any.strconv_Atoi_range_var Tryz.laysC172 s hlim h tp p w hvar
def Tryz.lays145_ren:Go.Shelf.Ren:=⟨fun | 145=> 236 | 220=> 263 | 219=> 284 | 217=> 296 | 225=> 297 | 224=> 298 | 267=> 299 | 266=> 305 | 314=> 306 | n=> n,fun | 9=> 9 | 4=> 4 | 59=> 250 | 3=> 3 | 5=> 5 | 46=> 260 | 146=> 343 | 51=> 174 | n=> n,fun | 1=> 3 | n=> n⟩
theorem Tryz.lays145:Go.Proofs.Lays.n145 Tryz.prog Tryz.lays145_ren:={
 mixed:=by kernel_rfl
 f145:=Tryz.func236.trans (congrArg some (by kernel_rfl))
 f217:=Tryz.func296.trans (congrArg some (by kernel_rfl))
 f219:=Tryz.func284.trans (congrArg some (by kernel_rfl))
 f220:=Tryz.func263.trans (congrArg some (by kernel_rfl))
 f224:=Tryz.func298.trans (congrArg some (by kernel_rfl))
 f225:=Tryz.func297.trans (congrArg some (by kernel_rfl))
 f266:=Tryz.func305.trans (congrArg some (by kernel_rfl))
 f267:=Tryz.func299.trans (congrArg some (by kernel_rfl))
 f314:=Tryz.func306.trans (congrArg some (by kernel_rfl))
 t3:=Tryz.underlying3
 a3:=Tryz.isAgg3
 z3:=Tryz.sizeOf3
 v3:=Tryz.zeroValue3
 t4:=Tryz.underlying4
 a4:=Tryz.isAgg4
 z4:=Tryz.sizeOf4
 v4:=Tryz.zeroValue4
 t5:=Tryz.underlying5
 a5:=Tryz.isAgg5
 z5:=Tryz.sizeOf5
 v5:=Tryz.zeroValue5
 t9:=Tryz.underlying9
 a9:=Tryz.isAgg9
 z9:=Tryz.sizeOf9
 v9:=Tryz.zeroValue9
 t46:=Tryz.underlying260
 a46:=Tryz.isAgg260
 z46:=Tryz.sizeOf260
 v46:=Tryz.zeroValue260
 t51:=Tryz.underlying174
 a51:=Tryz.isAgg174
 z51:=Tryz.sizeOf174
 v51:=Tryz.zeroValue174
 t59:=Tryz.underlying250
 a59:=Tryz.isAgg250
 z59:=Tryz.sizeOf250
 v59:=Tryz.zeroValue250
 t146:=Tryz.underlying343
 a146:=Tryz.isAgg343
 z146:=Tryz.sizeOf343
 v146:=Tryz.zeroValue343
 g1:=by kernel_rfl}
theorem Tryz.strings_Cut (s sep:ByteArray) (m:Int) (w:World) (hs:s.size < 4294967281) (hm:w.cell? ⟨3,0,none⟩=some (.int .i64 m)):
  Calls Tryz.prog 236 #[.string s,.string sep] w fun e w'=> e=.returned (.tuple #[.string ⟨(Lib.cut s.data.toList sep.data.toList).1.toArray⟩,.string ⟨(Lib.cut s.data.toList sep.data.toList).2.1.toArray⟩,.bool (Lib.cut s.data.toList sep.data.toList).2.2])∧∃n,w'=w.drewN n:=Any.strings_Cut Tryz.lays145 s sep m w hs hm
def Tryz.lays146_ren:Go.Shelf.Ren:=⟨fun | 146=> 186 | 221=> 238 | 268=> 264 | 138=> 265 | 143=> 266 | 195=> 285 | 197=> 286 | 218=> 287 | 219=> 284 | 260=> 300 | 217=> 296 | 225=> 297 | 224=> 298 | 267=> 299 | 266=> 305 | 314=> 306 | n=> n,fun | 9=> 9 | 31=> 183 | 3=> 3 | 4=> 4 | 0=> 0 | 105=> 324 | 21=> 21 | 5=> 5 | 46=> 260 | 119=> 345 | 139=> 348 | 138=> 347 | 146=> 343 | 51=> 174 | n=> n,fun | 1=> 3 | 3=> 4 | 4=> 5 | n=> n⟩
theorem Tryz.lays146:Go.Proofs.Lays.n146 Tryz.prog Tryz.lays146_ren:={
 mixed:=by kernel_rfl
 f138:=Tryz.func265.trans (congrArg some (by kernel_rfl))
 f143:=Tryz.func266.trans (congrArg some (by kernel_rfl))
 f146:=Tryz.func186.trans (congrArg some (by kernel_rfl))
 f195:=Tryz.func285.trans (congrArg some (by kernel_rfl))
 f197:=Tryz.func286.trans (congrArg some (by kernel_rfl))
 f217:=Tryz.func296.trans (congrArg some (by kernel_rfl))
 f218:=Tryz.func287.trans (congrArg some (by kernel_rfl))
 f219:=Tryz.func284.trans (congrArg some (by kernel_rfl))
 f221:=Tryz.func238.trans (congrArg some (by kernel_rfl))
 f224:=Tryz.func298.trans (congrArg some (by kernel_rfl))
 f225:=Tryz.func297.trans (congrArg some (by kernel_rfl))
 f260:=Tryz.func300.trans (congrArg some (by kernel_rfl))
 f266:=Tryz.func305.trans (congrArg some (by kernel_rfl))
 f267:=Tryz.func299.trans (congrArg some (by kernel_rfl))
 f268:=Tryz.func264.trans (congrArg some (by kernel_rfl))
 f314:=Tryz.func306.trans (congrArg some (by kernel_rfl))
 t0:=Tryz.underlying0
 a0:=Tryz.isAgg0
 z0:=Tryz.sizeOf0
 v0:=Tryz.zeroValue0
 t3:=Tryz.underlying3
 a3:=Tryz.isAgg3
 z3:=Tryz.sizeOf3
 v3:=Tryz.zeroValue3
 t4:=Tryz.underlying4
 a4:=Tryz.isAgg4
 z4:=Tryz.sizeOf4
 v4:=Tryz.zeroValue4
 t5:=Tryz.underlying5
 a5:=Tryz.isAgg5
 z5:=Tryz.sizeOf5
 v5:=Tryz.zeroValue5
 t9:=Tryz.underlying9
 a9:=Tryz.isAgg9
 z9:=Tryz.sizeOf9
 v9:=Tryz.zeroValue9
 t21:=Tryz.underlying21
 a21:=Tryz.isAgg21
 z21:=Tryz.sizeOf21
 v21:=Tryz.zeroValue21
 t31:=Tryz.underlying183
 a31:=Tryz.isAgg183
 z31:=Tryz.sizeOf183
 v31:=Tryz.zeroValue183
 t46:=Tryz.underlying260
 a46:=Tryz.isAgg260
 z46:=Tryz.sizeOf260
 v46:=Tryz.zeroValue260
 t51:=Tryz.underlying174
 a51:=Tryz.isAgg174
 z51:=Tryz.sizeOf174
 v51:=Tryz.zeroValue174
 t105:=Tryz.underlying324
 a105:=Tryz.isAgg324
 z105:=Tryz.sizeOf324
 v105:=Tryz.zeroValue324
 t119:=Tryz.underlying345
 a119:=Tryz.isAgg345
 z119:=Tryz.sizeOf345
 t138:=Tryz.underlying347
 a138:=Tryz.isAgg347
 z138:=Tryz.sizeOf347
 v138:=Tryz.zeroValue347
 t139:=Tryz.underlying348
 a139:=Tryz.isAgg348
 z139:=Tryz.sizeOf348
 v139:=Tryz.zeroValue348
 t146:=Tryz.underlying343
 a146:=Tryz.isAgg343
 z146:=Tryz.sizeOf343
 v146:=Tryz.zeroValue343
 g1:=by kernel_rfl
 g3:=by kernel_rfl
 g4:=by kernel_rfl}
theorem Tryz.strings_Split (s sep:ByteArray) (m:Int) (w:World) (hs:s.size < 4294967281) (hm:w.cell? ⟨3,0,none⟩=some (.int .i64 m)) (h1:1≤sep.size):
  Calls Tryz.prog 186 #[.string s,.string sep] w fun e w'=>
   e=.returned (.slice (some ⟨w.heap.size,0,none⟩) (Lib.countB s sep+1) (Lib.countB s sep+1))∧w'=w.alloc (.cells ((Lib.splitB sep 0 (Lib.countB s sep) s).map Value.string).toArray 9):=Any.strings_Split Tryz.lays146 (by kernel_rfl) s sep m w hs hm h1
end Go.Proofs
namespace Go.Proofs.YtlkmgccikgnaeaaGreatDoor.Ab
open Go Go.RowKit
def Acj (X:Cx) (n:Nat) (rs:List (Nat×Option Nat)) (r:Sy) (e:Exit) (σ':AS):Prop:=(e=.normal∨e=.ret)∧∃σ2,Wk X σ' σ2∧∃σ1,Aa D rs σ2=some σ1∧∃ns rl,P3 D (Ab.freeze σ1 ns) (Dz n (rs.map (·.1)) r) rl
theorem Adg {G:PW} {M:ID} (hM:Rk Tryz.prog D G M) (hok:Cl Tryz.prog D G) {f:Nat} {fn:Func} {c:Code} {rs:List (Nat×Option Nat)} {args:List AV} {r:Sy} {n:Nat} (hf:Tryz.prog.funcs[f]? =some fn) (hres:fn.results=(rs.map IV).toArray) (hn:fn.ntmps=n) (lo:Nat→Lo)
  (h:∀X:Cx,X.P=Tryz.prog→X.D=D∧X.nb=0∧X.M=M→X.G=G→X.Ok→Kl X lo c (Acj X n rs r) (AU n args))
  (hb:fn.body=some c:=by rfl) (hname:(fn.name== "runtime.NumGoroutine")=false:=by decide) (hd:(rs.map (·.1)).Nodup:=by decide) (hfit:KB (rs.map (·.1)) r.v=true:=by rfl) (hlen:args.length≤n∧n≤65536:=by simp) (hnm:Af args=[]:=by simp[Af,Ad]):A8 Tryz.prog D f args r:=
 JN hM mixed tok hok hf hb hname hres hd hfit hn hlen hnm fun X hP hD hG hX=> fun γ a w hs=> wp_mono (Al hX lo _ _ _ (h X hP hD hG hX) γ a w hs) fun e a' w' ⟨σ',⟨h1,σ2,h2,h3⟩,h4⟩=> ⟨σ2,⟨h1,h3⟩,h2 γ a' w' h4⟩
theorem Bx {G:PW} (hok:Cl Tryz.prog D G) {f:Nat} {fn:Func} {c:Code} {rs:List (Nat×Option Nat)} {args:List AV} {r:Sy} {n:Nat} (hf:Tryz.prog.funcs[f]? =some fn) (hres:fn.results=(rs.map IV).toArray) (hn:fn.ntmps=n) (lo:Nat→Lo)
  (h:∀X:Cx,X.P=Tryz.prog→X.D=D∧X.nb=0∧X.M=XK→X.G=G→X.Ok→Kl X lo c (Acj X n rs r) (AU n args))
  (hb:fn.body=some c:=by rfl) (hname:(fn.name== "runtime.NumGoroutine")=false:=by decide) (hd:(rs.map (·.1)).Nodup:=by decide) (hfit:KB (rs.map (·.1)) r.v=true:=by rfl) (hlen:args.length≤n∧n≤65536:=by simp) (hnm:Af args=[]:=by simp[Af,Ad]):A8 Tryz.prog D f args r:=
 Adg Rk.none hok hf hres hn lo h hb hname hd hfit hlen hnm
theorem Aj {X:Cx} {n:Nat} {rs:List (Nat×Option Nat)} {r:Sy} {e:Exit} {σ' σ1:AS} (ns:List Nat) (rl:List (Nat×Nat)) (he:e=.normal∨e=.ret) (hu:Aa D rs σ'=some σ1) (nt:(Dz n (rs.map (·.1)) r).nt=(Ab.freeze σ1 ns).nt) (nd:Ku rl=true)
  (tm:Eo (Ab.freeze σ1 ns) (AF (Dz n (rs.map (·.1)) r).bl) rl (Dz n (rs.map (·.1)) r).tm) (bl:En D (Ab.freeze σ1 ns) (AF (Dz n (rs.map (·.1)) r).bl) rl (Dz n (rs.map (·.1)) r).bl):Acj X n rs r e σ':=
 ⟨he,σ',Wk.refl,σ1,hu,ns,rl,nt,nd,tm,bl⟩
theorem Hs {X:Cx} {ops:Array Oper} {σ:AS} {R:AS→Prop} (hX:X.Ok) (hP:X.P=Tryz.prog) {dst:Option Nat} {f:Operand} {args:Array Operand} {types:Array TypeId} {ty:Nat} {pos:String} {af:Array Edge} {g:Nat} {caps:List AV}
  {fn:Func} {c:Code} {rs:List (Nat×Option Nat)} {n:Nat} (nb:Nat) (lo:Nat→Lo) (hfn:Tryz.prog.funcs[g]? =some fn) (hres:fn.results=(rs.map IV).toArray) (hn:fn.ntmps=n)
  (h:({X with nb:=nb,M:=XK}:Cx).Ok→Kl {X with nb:=nb,M:=XK} lo c (fun e σ'=> (e=.normal∨e=.ret)∧∃σ1,Aa X.D rs σ'=some σ1∧R (Bg σ σ1 dst (rs.map (·.1)))) (Bf σ n (args.toList.map (ev σ)++caps)))
  (hf:ev σ f=.func g caps:=by rfl) (hb:fn.body=some c:=by rfl) (hname:(fn.name== "runtime.NumGoroutine")=false:=by decide) (hd:(rs.map (·.1)).Nodup:=by decide) (hlen:(args.toList.map (ev σ)++caps).length≤n∧n≤65536:=by simp) (hdst:∀k,dst=some k→k < σ.nt:=by simp):
  Ex X ops ⟨dst,.call ⟨.value f,args,types⟩,ty,pos,af,none⟩ σ R:=
 Jq hX.types hf (by rw[hP];exact hfn) hb hname hres hd hn hlen hdst nb XK (Al (WH hX nb Rk.none) lo _ _ _ (h (WH hX nb Rk.none)))
attribute [go_sem] Ay
theorem IF {P:Program} {D:Nat→TI} {f:Nat} {fn:Func} {args:List AV} {v0:AV} (hf:P.funcs[f]? =some fn) (hname:(fn.name== "runtime.NumGoroutine")=false) (hbody:fn.body.isNone=false) (hn:Ad v0=[])
  (h:∀(w:World) (im:Nat→Prop) (ρ:BI) (vs:Array Value),Ack w im→E8 w im ρ args vs.toList→
   Calls P f vs w fun e w'=> ∃v,e=.returned v∧Below w.heap.size w w'∧Rel w' (fun b=> b < w'.heap.size∧(im b∨w.heap.size≤b)) ρ v0 v):A8 P D f args ⟨v0,[]⟩:=by
 refine ⟨⟨fn,hf,hname,hbody⟩,fun w im ρ vs him hvs=> (h w im ρ vs him hvs).mono fun e w' ⟨v,he,hb,hr⟩=> ⟨v,he,⟨hb.os,hb.tape,hb.output,hb.size,fun b hlt _=> hb.block b hlt⟩,ρ,?_,?_,?_,?_⟩⟩
 ·intro k e sz rs hk;simp at hk
 ·intro k l b hk;simp at hk
 ·exact hr.mono (fun b hb=> ⟨hb.1,hb.2,fun m hm=> by simp at hm⟩) (fun _ _=> rfl) (fun _ _=> rfl)
 ·intro n hn';rw[hn] at hn';cases hn'
def Ae (l:List UInt8):List AV:=[.str l]
def bA (l:List UInt8):ByteArray:=⟨⟨l⟩⟩
theorem EF:∀{l m:List (List UInt8)},l.map Ae=m.map Ae→l=m
 | [],[],_=> rfl
 | [],_::_,h=> by simp at h
 | _::_,[],h=> by simp at h
 | a::l,b::m,h=> by
  simp only[List.map_cons,List.cons.injEq,Ae,AV.str.injEq,and_true] at h
  rw[h.1,EF h.2]
theorem Hi {l:List (List UInt8)} {i:Nat} (h:i < l.length):(l.map Ae).getD i []=Ae (l.getD i []):=by
 simp[h]
section
variable {w:World} {im:Nat→Prop} {ρ:BI}
theorem AaX {l:List (List UInt8)} {v:Value} (h:Rel w im ρ (.sl 1 (l.map Ae)) v):∃A c,v=.slice A l.length c∧l.length≤c∧c≤maxLen∧(0 < l.length→∃b o,A=some ⟨b,o,none⟩∧im b∧∀(j:Nat) x,l[j]? =some x→w.cell? ⟨b,o+j,none⟩=some (.string (bA x))):=by
 generalize hrs:l.map Ae=rs at h
 cases h with
 | sl sz rs A c b o val hc hm hA hrow hcell hval=>
 subst hrs
 rw[List.length_map] at hc hA ⊢
 refine ⟨A,c,rfl,hc,hm,fun hn=> ?_⟩
 obtain ⟨h1,h2⟩:=hA hn
 refine ⟨b,o,h1,h2,fun j x hx=> ?_⟩
 have hr:(l.map Ae)[j]? =some (Ae x):=by rw[List.getElem?_map,hx];rfl
 have h3:=hcell j 0 _ (.str x) hr rfl
 have h4:=(hval j 0 _ (.str x) hr rfl).str_
 rw[h4] at h3
 simpa[bA] using h3.1
theorem Aa6 {b o c:Nat} {l:List (List UInt8)} (hc:l.length≤c) (hm:c≤maxLen) (hb:im b) (h:∀(j:Nat) x,l[j]? =some x→w.cell? ⟨b,o+j,none⟩=some (.string (bA x))):Rel w im ρ (.sl 1 (l.map Ae)) (.slice (some ⟨b,o,none⟩) l.length c):=by
 have hrow:∀{i j:Nat} {row:List AV} {x:AV},(l.map Ae)[i]? =some row→row[j]? =some x→∃y,l[i]? =some y∧j=0∧x=.str y:=fun {i j row x} hi hj=> by
  rw[List.getElem?_map] at hi
  obtain ⟨y,hy,rfl⟩:=Option.map_eq_some_iff.1 hi
  have hj0:j=0:=by have:=(List.getElem?_eq_some_iff.1 hj).1;simp[Ae] at this;exact this
  subst hj0
  simp[Ae] at hj
  exact ⟨y,hy,rfl,hj.symm⟩
 have:=Rel.sl (w:=w) (im:=im) (ρ:=ρ) 1 (l.map Ae) (some ⟨b,o,none⟩) c b o (fun i _=> .string (bA (l.getD i []))) (by simpa using hc) hm (fun _=> ⟨rfl,hb⟩) (fun i row hi=> ?_) (fun i j row x hi hj=> ?_) (fun i j row x hi hj=> ?_)
 ·rw[List.length_map] at this;exact this
 ·rw[List.getElem?_map] at hi
  obtain ⟨y,_,rfl⟩:=Option.map_eq_some_iff.1 hi
  rfl
 ·obtain ⟨y,hy,rfl,rfl⟩:=hrow hi hj
  have hg:l.getD i []=y:=by simp[hy]
  refine ⟨?_,rfl,by simp[Ad]⟩
  rw[hg,show o+(i*1+0)=o+i by omega]
  exact h i y hy
 ·obtain ⟨y,hy,rfl,rfl⟩:=hrow hi hj
  have hg:l.getD i []=y:=by simp[hy]
  rw[hg]
  exact .str y
end
theorem Ro (s p:List UInt8):A8 Tryz.prog D 190 [.str s,.str p] ⟨.tup [.str (Lib.trimPrefix s p),.bool (Lib.hasPrefix s p)],[]⟩:=by
 refine IF Tryz.func190 (by decide) rfl (by simp[Ad,Af]) fun w im ρ vs him hvs=> ?_
 obtain ⟨v,u,rfl,hv,hu⟩:=JF hvs
 rw[hv.str_,hu.str_]
 refine (Tryz.strings_CutPrefix (bA s) (bA p) w).mono fun e w' ⟨he,hw⟩=> ⟨_,he,?_,Lc (.str _) (.bool _)⟩
 subst hw
 exact Below.refl _ _
theorem Qf (s:List UInt8) (c:UInt8):A8 Tryz.prog D 281 [.str s,.int .u8 c.toNat] ⟨.int .i64 (Lib.indexByte s c),[]⟩:=by
 refine IF Tryz.func281 (by decide) rfl (by simp[Ad]) fun w im ρ vs him hvs=> ?_
 obtain ⟨v,u,rfl,hv,hu⟩:=JF hvs
 rw[hv.str_,hu.int_]
 refine (Tryz.strings_IndexByte (bA s) c.toNat w).mono fun e w' ⟨he,hw⟩=> ⟨_,he,?_,?_⟩
 ·subst hw
  exact Below.refl _ _
 ·have:(c.toNat:Int).toNat.toUInt8=c:=by simp
  rw[this]
  exact .int _ _
theorem ZS (s p:List UInt8) (hs:s.length < 4294967281):A8 Tryz.prog D 236 [.str s,.str p] ⟨.tup [.str (Lib.cut s p).1,.str (Lib.cut s p).2.1,.bool (Lib.cut s p).2.2],[]⟩:=by
 refine IF Tryz.func236 (by decide) rfl (by simp[Ad,Af]) fun w im ρ vs him hvs=> ?_
 obtain ⟨v,u,rfl,hv,hu⟩:=JF hvs
 rw[hv.str_,hu.str_]
 obtain ⟨m,_,_,_,_,hm⟩:=him.2.2.2.1
 refine (Tryz.strings_Cut (bA s) (bA p) m w hs hm).mono fun e w' ⟨he,n,hw⟩=> ⟨_,he,?_,?_⟩
 ·subst hw
  exact Pj (Below.refl _ _) n
 ·refine .tup _ _ rfl fun i x v hx hv=> ?_
  match i with
  | 0=> simp at hx hv;subst hx hv;exact .str _
  | 1=> simp at hx hv;subst hx hv;exact .str _
  | 2=> simp at hx hv;subst hx hv;exact .bool _
  | i+3=> simp at hx
theorem Wp (s p:List UInt8) (hs:s.length < 4294967281) (h1:1≤p.length):A8 Tryz.prog D 186 [.str s,.str p] ⟨.sl 1 ((Lib.split s p).map Ae),[]⟩:=by
 refine IF Tryz.func186 (by decide) rfl (by simp[Ad]) fun w im ρ vs him hvs=> ?_
 obtain ⟨v,u,rfl,hv,hu⟩:=JF hvs
 rw[hv.str_,hu.str_]
 obtain ⟨m,_,_,_,_,hm⟩:=him.2.2.2.1
 have hlen:=Lib.splitB_all (bA p) h1 0 _ (bA s) rfl
 have hdat:=Lib.splitB_data (bA p) 0 (Lib.countB (bA s) (bA p)) (bA s)
 have hdl:(Lib.split s p).length=Lib.countB (bA s) (bA p)+1:=by
  show (Lib.splitK p 0 (Lib.count s p) s).length=_
  rw[←hlen,←List.length_map (f:=fun b:ByteArray=> b.data.toList),hdat]
  rfl
 have hle:Lib.countB (bA s) (bA p)≤s.length:=Lib.countB_le (bA p) h1 _ (bA s) (Nat.le_refl _)
 refine (Tryz.strings_Split (bA s) (bA p) m w hs hm h1).mono fun e w' ⟨he,hw⟩=> ⟨_,he,?_,?_⟩
 ·subst hw
  exact (Below.refl _ _).alloc (Nat.le_refl _) _
 ·subst hw
  rw[←hdl]
  refine Aa6 (o:=0) (Nat.le_refl _) (by rw[hdl];unfold maxLen;omega) ⟨by simp,.inr (Nat.le_refl _)⟩ fun j x hx=> ?_
  have hx':((Lib.splitB (bA p) 0 (Lib.countB (bA s) (bA p)) (bA s)).map (·.data.toList))[j]? =some x:=by rw[hdat];exact hx
  rw[List.getElem?_map] at hx'
  obtain ⟨y,hy,rfl⟩:=Option.map_eq_some_iff.1 hx'
  rw[Nat.zero_add,World.cell?_alloc_at _ _ _ _ rfl]
  simp only[List.getElem?_toArray,List.getElem?_map,hy,Option.map_some]
  rfl
theorem Yn (l:List (List UInt8)) (p:List UInt8) (hN:(Lib.join l p).length≤1099511627776) (hl:l.length≤1099511627776):A8 Tryz.prog D 183 [.sl 1 (l.map Ae),.str p] ⟨.str (Lib.join l p),[]⟩:=by
 refine IF Tryz.func183 (by decide) rfl (by simp[Ad]) fun w im ρ vs him hvs=> ?_
 obtain ⟨v,u,rfl,hv,hu⟩:=JF hvs
 rw[hu.str_]
 obtain ⟨A,c,rfl,h1,h2,h3⟩:=AaX hv
 rcases Nat.eq_zero_or_pos l.length with h0 | h0
 ·have h0:=List.eq_nil_of_length_eq_zero h0
  subst h0
  refine (Tryz.strings_Join_none A c (bA p) w).mono fun e w' ⟨he,hw⟩=> ⟨_,he,?_,.str _⟩
  subst hw
  exact Below.refl _ _
 ·obtain ⟨b,o,rfl,hb,hcell⟩:=h3 h0
  have hm:(l.map bA).map (·.data.toList)=l:=by rw[List.map_map];exact List.map_id' l
  have:=Tryz.strings_Join b o c (l.map bA) (bA p) w (fun j x hx=> by
   rw[List.getElem?_map] at hx
   obtain ⟨y,hy,rfl⟩:=Option.map_eq_some_iff.1 hx
   exact hcell j y hy) (him.1 b hb) (by simp;omega) (by simpa using h1) (by rw[hm];show (Lib.join l p).length≤_;omega)
  rw[List.length_map,hm] at this
  exact this.mono fun e w' ⟨he,hw⟩=> ⟨_,he,hw,.str _⟩
theorem ZH (n:Int) (h0: -9223372036854775808≤n) (h1:n≤9223372036854775807):A8 Tryz.prog D 138 [.int .i64 n] ⟨.str (Lib.itoa n),[]⟩:=by
 refine IF Tryz.func138 (by decide) rfl (by simp[Ad]) fun w im ρ vs him hvs=> ?_
 obtain ⟨v,rfl,hv⟩:=He hvs
 rw[hv.int_]
 obtain ⟨t,f,ht⟩:=him.2.2.1
 refine (Tryz.strconv_Itoa n h0 h1 w ?_).mono fun e w' ⟨he,k,os,hw⟩=> ⟨_,he,?_,.str _⟩
 ·unfold Lib.TabIs World.var?
  rw[show Tryz.prog.globalNamed _=some 0 by kernel_rfl]
  simp only[Option.bind_some,ht]
 ·subst hw
  refine ⟨rfl,rfl,rfl,by show w.heap.size≤(w.heap++os).size;rw[Array.size_append];omega,fun j hj=> ?_⟩
  show (w.heap++os)[j]? =w.heap[j]?
  exact Array.getElem?_append_left hj
def EV (l:List UInt8):Int×Bool:=match Lib.atoiAll l with
 | .ok v=> (v,false)
 | .range=> (Lib.atoiSat l,true)
 | _=> (0,true)
theorem ZF (s:List UInt8) (hs:s.length≤281474976710656):A8 Tryz.prog D 196 [.str s] ⟨.tup [.int .i64 (EV s).1,.ifc (EV s).2],[]⟩:=by
 refine IF Tryz.func196 (by decide) rfl (by simp[Ad,Af]) fun w im ρ vs him hvs=> ?_
 obtain ⟨v,rfl,hv⟩:=He hvs
 rw[hv.str_]
 obtain ⟨tp,p,t,f,hv1⟩:=him.2.2.2.2.1
 obtain ⟨tp2,p2,t2,f2,hv2⟩:=him.2.2.2.2.2
 unfold EV
 rcases ha:Lib.atoiAll s with x | _ | _
 ·refine (Tryz.strconv_Atoi_ok (bA s) (by show s.length≤_;omega) x ha w).mono fun e w' ⟨he,hw⟩=> ⟨_,he,?_,Lc (.int _ _) (.ifc _ _ rfl)⟩
  rcases hw with rfl | ⟨q,rfl⟩
  ·exact Below.refl _ _
  ·exact Lib.bytesWorld_below w _ q
 ·refine (Any.strconv_Atoi_syntax_var Tryz.laysC172 (bA s) hs ha tp p w ?_).mono fun e w' ⟨N,he,h1,h2,h3⟩=> ⟨_,he,h3,Lc (.int _ _) (.ifc _ _ rfl)⟩
  unfold World.var?
  rw[show Tryz.prog.globalNamed _=some 1 by kernel_rfl]
  simp only[Option.bind_some,hv1]
 ·refine (Tryz.strconv_Atoi_range_var (bA s) hs ha tp2 p2 w ?_).mono fun e w' ⟨N,he,h1,h2,h3⟩=> ⟨_,he,h3,Lc (.int _ _) (.ifc _ _ rfl)⟩
  unfold World.var?
  rw[show Tryz.prog.globalNamed _=some 2 by kernel_rfl]
  simp only[Option.bind_some,hv2]
def Cf {α:Type} (p:α→Bool):List α→Int→Int
 | [],_=> -1
 | i::r,k=> if p i=true then k else Cf p r (k+1)
theorem IR {α:Type} {p:α→Bool} {d:α}:∀{l:List α} {k:Nat} {s:Int},k < l.length→(∀j,j < k→p (l.getD j d)=false)→p (l.getD k d)=true→Cf p l s=s+k
 | [],k,s,h,_,_=> by simp at h
 | i::r,0,s,h,_,hk=> by
  rw[Cf,if_pos (by simpa using hk)]
  simp
 | i::r,k+1,s,h,hj,hk=> by
  have h0:=hj 0 (by omega)
  rw[Cf,if_neg (by simpa using h0),IR (d:=d) (k:=k) (by simpa using h) (fun j hlt=> by simpa using hj (j+1) (by omega)) (by simpa using hk)]
  omega
theorem HI {α:Type} {p:α→Bool} {d:α}:∀{l:List α} {s:Int},(∀j,j < l.length→p (l.getD j d)=false)→Cf p l s=-1
 | [],_,_=> rfl
 | i::r,s,h=> by
  have h0:=h 0 (by simp)
  rw[Cf,if_neg (by simpa using h0),HI (d:=d) (fun j hlt=> by simpa using h (j+1) (by simpa using hlt))]
theorem IS {α:Type} {p:α→Bool} {l:List α}:Cf p l 0=-1∨(0≤Cf p l 0∧Cf p l 0 < l.length):=by
 have key:∀(l:List α) (s:Int),0≤s→Cf p l s=-1∨(s≤Cf p l s∧Cf p l s < s+l.length):=by
  intro l
  induction l with
  | nil=> intro s hs;exact .inl rfl
  | cons i r ih=>
   intro s hs
   rw[Cf]
   split
   ·exact .inr ⟨Int.le_refl _,by simp only[List.length_cons];omega⟩
   ·rcases ih (s+1) (by omega) with h | h
    ·exact .inl h
    ·exact .inr ⟨by omega,by simp only[List.length_cons];omega⟩
 have:=key l 0 (Int.le_refl _)
 omega
theorem A8.weak {P:Program} {D:Nat→TI} {f:Nat} {args args':List AV} {r:Sy} (h:A8 P D f args r) (hc:Aw [] args' args):A8 P D f args' r:=by
 obtain ⟨h0,h⟩:=h
 refine ⟨h0,fun w im ρ vs him hvs=> h w im (fun _=> ⟨none,none,0,0,0,fun _=> none⟩) vs him ?_⟩
 obtain ⟨h1,h2⟩:=hvs
 obtain ⟨q1,q2⟩:=If hc
 refine ⟨by rw[h1,q1],fun i y v hy hv=> ?_⟩
 obtain ⟨x,hx,hxy⟩:=q2 i y hy
 exact (h2 i x v hx hv).cov (fun _ h=> h) (fun n t hn=> by simp[get] at hn) (fun _ _=> rfl) hxy
theorem Sq {W:World} {n:String} {g:Nat} {cs:Array Value} (hg:Tryz.prog.globalNamed n=some g) (h:W.var? Tryz.prog n=some cs):∃t f,W.heap[g]? =some (.cells cs t f):=by
 unfold World.var? at h
 rw[hg] at h
 simp only[Option.bind_some] at h
 split at h
 ·rename_i c t f e
  cases h
  exact ⟨t,f,e⟩
 ·cases h
theorem Aax {W:World} (h:W.ShapedOpen Tryz.prog):∃m cs t f,W.heap[3]? =some (.cells cs t f)∧W.cell? ⟨3,0,none⟩=some (.int .i64 m):=by
 unfold World.ShapedOpen at h
 obtain ⟨cs,hb,hs,hr⟩:=h.1 3 #[.int .i64 0] 3 (of_decide_eq_true (by kernel_rfl)) (by kernel_rfl)
 obtain ⟨ts,h1,h2,h3⟩:=hr (by kernel_rfl)
 have e:Tryz.prog.cellTypes Tryz.prog.depth 3=some [3]:=by kernel_rfl
 rw[e] at h1
 cases h1
 have h1:0 < cs.size:=by rw[hs];decide
 obtain ⟨u,hu,ok⟩:=h3 0 cs[0] (by simp[h1])
 simp at hu
 subst hu
 unfold Cell.ok at ok
 rw[Tryz.underlying3] at ok
 cases hc:cs[0] <;> rw[hc] at ok <;> simp at ok
 obtain ⟨rfl,_⟩:=ok
 rename_i z hz
 exact ⟨z,cs,_,_,hb,by simp[World.cell?,hb,h1,hc]⟩
theorem Pr {W:World} {n nm:String} {d:DataW Unit} {g ti:Nat} {ms:Array (String×TypeId)} (hg:Tryz.prog.globalNamed n=some g) (ht:(Tryz.prog.globals[g]?).map (·.type)=some ti) (hi:Tryz.prog.underlying ti=some (.interface ms))
  (h:Lib.VarReads Tryz.prog W n (.iface nm d)):∃tp p t f,W.heap[g]? =some (.cells #[.iface tp p] t f):=by
 obtain ⟨g',t,cs,fuel,p,h1,h2,h3,h4⟩:=h
 obtain rfl:=Option.some.inj (hg.symm.trans h1)
 obtain rfl:=Option.some.inj (ht.symm.trans h2)
 obtain ⟨_,u,v,e,_⟩:=iface_of_trod hi h4
 obtain ⟨t,f,hb⟩:=Sq hg h3
 obtain rfl:cs=#[.iface u v]:=by cases cs;simp_all
 exact ⟨u,v,t,f,hb⟩
theorem gi_of_laid {W:World} (h:laidMetH Tryz.prog Rows.gateTellsUptoRow.laid W) (hs:W.ShapedOpen Tryz.prog):GI W∧∀b∈gL,b < W.heap.size:=by
 rw[MakeChecks.laidMetH_plain _ _ _ (by kernel_rfl)] at h
 have hp:∃t f,W.heap[0]? =some (.cells (Lib.pow10Tab.map fun z=> Value.int .u64 z).toArray t f):=by
  have hr:Lib.VarReads Tryz.prog W "internal/strconv.uint64pow10" (Lib.tabData .u64 Lib.pow10Tab):=Lib.laidMet.reads h (by simp only[Rows.gateTellsUptoRow];exact .tail _ (.tail _ (.head _)))
  obtain ⟨g',t,cs,fuel,p,h1,h2,h3,h4⟩:=hr
  have hg:Tryz.prog.globalNamed "internal/strconv.uint64pow10"=some 0:=by kernel_rfl
  obtain rfl:=Option.some.inj (hg.symm.trans h1)
  obtain ⟨t',f,hb⟩:=Sq hg h3
  have ht:(Tryz.prog.globals[0]?).map (·.type)=some 328:=by kernel_rfl
  obtain rfl:=Option.some.inj (ht.symm.trans h2)
  have:=Lib.cells_of_tab (by kernel_rfl:Tryz.prog.underlying 328=some (.array 20 309)) (by kernel_rfl) (by kernel_rfl) (by kernel_rfl) h4
  exact ⟨t',f,by rw[hb,←this]⟩
 have h1:=Pr (g:=1) (ti:=245) (ms:=#[("Error",222)]) (by kernel_rfl) (by kernel_rfl) (by kernel_rfl) (Lib.laidMet.reads h (n:= "strconv.ErrSyntax") (by simp only[Rows.gateTellsUptoRow];exact .tail _ (.tail _ (.tail _ (.tail _ (.tail _ (.head _)))))))
 have h2:=Pr (g:=2) (ti:=245) (ms:=#[("Error",222)]) (by kernel_rfl) (by kernel_rfl) (by kernel_rfl) (Lib.laidMet.reads h (n:= "strconv.ErrRange") (by simp only[Rows.gateTellsUptoRow];exact .tail _ (.tail _ (.tail _ (.tail _ (.head _))))))
 have hm:=Aax hs
 refine ⟨⟨hp,hm,h1,h2⟩,fun b hb=> ?_⟩
 have hlt:∀{g:Nat} {o:Obj},W.heap[g]? =some o→g < W.heap.size:=fun h=> (Array.getElem?_eq_some_iff.1 h).1
 obtain ⟨_,_,k1⟩:=hp
 obtain ⟨_,_,_,_,k2,_⟩:=hm
 obtain ⟨_,_,_,_,k3⟩:=h1
 obtain ⟨_,_,_,_,k4⟩:=h2
 simp only[gL,List.mem_cons,List.not_mem_nil,or_false] at hb
 rcases hb with rfl | rfl | rfl | rfl
 ·exact hlt k1
 ·exact hlt k2
 ·exact hlt k3
 ·exact hlt k4
end Go.Proofs.YtlkmgccikgnaeaaGreatDoor.Ab
